/- call: the small functions. -/
import Derived.Test.YtnanpamfdjnomaaStdB
namespace Go.Proofs.Ytnanpamfdjnomaa
open Go Go.RowKit Go.Proofs.Ytnanpamfdjnomaa.AL
set_option maxRecDepth 100000
set_option linter.unusedSimpArgs false

theorem i64n (n : Nat) (h : n < 2 ^ 63) : IntKind.i64.wrap (n : Int) = n := by rw [w64 (by omega) (by omega)]

theorem within_spec (n lo hi : Int) (σ : Store) : ACalls Try.prog 27 [.int .i64 n, .int .i64 lo, .int .i64 hi] σ (fun x s => x = .bool (decide (lo ≤ n ∧ n ≤ hi)) ∧ s = σ) := by
  refine ACalls.of_arun Try.func27 c27_eq c27_n c27_rs (by simp) fun hwf => ?_
  by_cases h1 : lo ≤ n
  · have d1 : decide (n ≥ lo) = true := decide_eq_true h1
    simp only [go_sem, ↓reduceIte, reduceCtorEq, Nat.reduceEqDiff, Nat.reduceLT, Nat.reduceLeDiff, Nat.reduceAdd, Nat.reduceMul, Nat.reduceSub, Nat.reduceBEq, Nat.reduceDiv, Int.reduceNeg, Int.reduceLT, Int.reduceLE, Int.reduceEq, Int.reduceToNat, Int.reduceAdd, Int.reduceSub, Int.reduceMul, Int.reduceBEq, Int.reduceBNe, reduceBEq, c27, c27_r0, c27_r1, d1]
    exact ⟨_, _, _, rfl, WeakV.refl _ _ _, by simp [h1], rfl⟩
  · have d1 : decide (n ≥ lo) = false := decide_eq_false h1
    simp only [go_sem, ↓reduceIte, reduceCtorEq, Nat.reduceEqDiff, Nat.reduceLT, Nat.reduceLeDiff, Nat.reduceAdd, Nat.reduceMul, Nat.reduceSub, Nat.reduceBEq, Nat.reduceDiv, Int.reduceNeg, Int.reduceLT, Int.reduceLE, Int.reduceEq, Int.reduceToNat, Int.reduceAdd, Int.reduceSub, Int.reduceMul, Int.reduceBEq, Int.reduceBNe, reduceBEq, c27, c27_r0, c27_r1, d1]
    exact ⟨_, _, _, rfl, WeakV.refl _ _ _, by simp [h1], rfl⟩

theorem cbytes_spec (n : Nat) (hn : n < 2 ^ 63) (size : Nat) (hs : size ≤ 7) (σ : Store) :
    ACalls Try.prog 29 [.int .i64 n, .int .i64 size] σ (fun x s => x = AV.bytes (bigL n size) ∧ s = σ) := by
  refine ACalls.of_arun Try.func29 c29_eq c29_n c29_rs (by simp) fun hwf => ?_
  simp only [go_sem, ↓reduceIte, reduceCtorEq, Nat.reduceEqDiff, Nat.reduceLT, Nat.reduceLeDiff, Nat.reduceAdd, Nat.reduceMul, Nat.reduceSub, Nat.reduceBEq, Nat.reduceDiv, Int.reduceNeg, Int.reduceLT, Int.reduceLE, Int.reduceEq, Int.reduceToNat, Int.reduceAdd, Int.reduceSub, Int.reduceMul, Int.reduceBEq, Int.reduceBNe, reduceBEq, c29_r0, c29_r1, c29_r2, c29_r3, c29_r5, c29_r4, c29_r6, c29]
  refine AWPc.loop (α := Nat × List UInt8) (fun a => [(0, .int .i64 n), (5, .row σ.next 1 (encB a.2)), (6, .int .i64 ((a.1 : Int) - 1))]) (fun a => σ.newTok 5 1 a.2.length)
    (fun a => a.2 ++ bigL n a.1 = bigL n size ∧ a.1 ≤ size) (fun a => a.1) ⟨(size, []), ⟨rfl, Nat.le_refl _⟩, ?_⟩ ?_
  · refine Weak.trans (Weak.full 5 5 1 (xs := []) rfl 0) ?_
    refine Weak.one hwf (Nat.le_refl _) ((Agree.refl _).newTok _ _ _) σ.next (by simp only [go_sem, ↓reduceIte, reduceCtorEq, Nat.reduceEqDiff, Nat.reduceLT, Nat.reduceLeDiff, Nat.reduceAdd, Nat.reduceMul, Nat.reduceSub, Nat.reduceBEq, Nat.reduceDiv, Int.reduceNeg, Int.reduceLT, Int.reduceLE, Int.reduceEq, Int.reduceToNat, Int.reduceAdd, Int.reduceSub, Int.reduceMul, Int.reduceBEq, Int.reduceBNe, reduceBEq]) (Nat.le_refl _) ?_
    refine all_cons (.pv _ _ _) (all_cons (.row0 rfl) (all_cons (.int _ _ ?_) all_nil))
    exact w64 (by omega) (by omega)
  · rintro ⟨r, L⟩ ⟨hL, hr⟩
    dsimp only at hL hr
    by_cases hd : 1 ≤ r
    · obtain ⟨r, rfl⟩ : ∃ q, r = q + 1 := ⟨r - 1, by omega⟩
      have d1 : decide ((((r + 1 : Nat) : Int) - 1) ≥ 0) = true := decide_eq_true (by omega)
      have hlen : L.length ≤ 8 := by have := congrArg List.length hL; simp [bigL_length] at this; omega
      have e1 : IntKind.i64.wrap (8 * (((r + 1 : Nat) : Int) - 1)) = 8 * (r : Int) := by rw [w64 (by omega) (by omega)]; omega
      have e2 : min (8 * (r : Int)).toNat 64 = 8 * r := by omega
      simp only [go_sem, ↓reduceIte, reduceCtorEq, Nat.reduceEqDiff, Nat.reduceLT, Nat.reduceLeDiff, Nat.reduceAdd, Nat.reduceMul, Nat.reduceSub, Nat.reduceBEq, Nat.reduceDiv, Int.reduceNeg, Int.reduceLT, Int.reduceLE, Int.reduceEq, Int.reduceToNat, Int.reduceAdd, Int.reduceSub, Int.reduceMul, Int.reduceBEq, Int.reduceBNe, reduceBEq, c29_l0, c29_r0, c29_r1, c29_r2, c29_r3, c29_r5, c29_r4, c29_r6, c29, d1, e1, e2, byte_shr, encB_one, encB_append, encB_length]
      refine ⟨by omega, ⟨by omega, by simp only [maxLen]; omega⟩, (r, L ++ [UInt8.ofNat (n / 256 ^ r)]), ⟨by simpa [bigL] using hL, by omega⟩, by simp, ?_⟩
      refine Weak.one hwf (Nat.le_refl _) ((((Agree.refl _).newTok _ _ _).killTok (Nat.le_refl _)).newTok _ _ _) (σ.next + 1) (by simp only [go_sem, ↓reduceIte, reduceCtorEq, Nat.reduceEqDiff, Nat.reduceLT, Nat.reduceLeDiff, Nat.reduceAdd, Nat.reduceMul, Nat.reduceSub, Nat.reduceBEq, Nat.reduceDiv, Int.reduceNeg, Int.reduceLT, Int.reduceLE, Int.reduceEq, Int.reduceToNat, Int.reduceAdd, Int.reduceSub, Int.reduceMul, Int.reduceBEq, Int.reduceBNe, reduceBEq, encB_length, List.length_append]) (by omega) ?_
      refine all_cons (.pv _ _ _) (all_cons (.row0 rfl) (all_cons (.int _ _ ?_) all_nil))
      rw [w64 (by omega) (by omega)]; omega
    · have hd : r = 0 := by omega
      subst hd
      have d1 : decide ((((0 : Nat) : Int) - 1) ≥ 0) = false := by decide
      simp only [go_sem, ↓reduceIte, reduceCtorEq, Nat.reduceEqDiff, Nat.reduceLT, Nat.reduceLeDiff, Nat.reduceAdd, Nat.reduceMul, Nat.reduceSub, Nat.reduceBEq, Nat.reduceDiv, Int.reduceNeg, Int.reduceLT, Int.reduceLE, Int.reduceEq, Int.reduceToNat, Int.reduceAdd, Int.reduceSub, Int.reduceMul, Int.reduceBEq, Int.reduceBNe, reduceBEq, c29_l0, c29_r0, c29_r1, c29_r2, c29_r3, c29_r5, c29_r4, c29_r6, c29, d1]
      simp only [bigL, List.append_nil] at hL
      subst hL
      exact ⟨_, _, σ, rfl, WeakV.none hwf ((Agree.refl _).newTok _ _ _) (.list' (by simp only [go_sem, ↓reduceIte, reduceCtorEq, Nat.reduceEqDiff, Nat.reduceLT, Nat.reduceLeDiff, Nat.reduceAdd, Nat.reduceMul, Nat.reduceSub, Nat.reduceBEq, Nat.reduceDiv, Int.reduceNeg, Int.reduceLT, Int.reduceLE, Int.reduceEq, Int.reduceToNat, Int.reduceAdd, Int.reduceSub, Int.reduceMul, Int.reduceBEq, Int.reduceBNe, reduceBEq]) rfl), rfl, rfl⟩
theorem big_row_spec (n : Nat) (hn : n < 2 ^ 63) (size : Nat) (hs : size ≤ 7) (σ : Store) :
    ACalls Try.prog 30 [.int .i64 n, .int .i64 size] σ (fun x s => x = .row σ.next 1 (encB (bigL n size)) ∧ s = σ.newTok 5 1 size) := by
  refine ACalls.of_arun Try.func30 c30_eq c30_n c30_rs (by simp) fun hwf => ?_
  simp only [go_sem, ↓reduceIte, reduceCtorEq, Nat.reduceEqDiff, Nat.reduceLT, Nat.reduceLeDiff, Nat.reduceAdd, Nat.reduceMul, Nat.reduceSub, Nat.reduceBEq, Nat.reduceDiv, Int.reduceNeg, Int.reduceLT, Int.reduceLE, Int.reduceEq, Int.reduceToNat, Int.reduceAdd, Int.reduceSub, Int.reduceMul, Int.reduceBEq, Int.reduceBNe, reduceBEq, c30_r0, c30_r1, c30_r2, c30_r3, c30_r5, c30_r4, c30_r6, c30]
  refine AWPc.loop (α := Nat × List UInt8) (fun a => [(0, .int .i64 n), (5, .row σ.next 1 (encB a.2)), (6, .int .i64 ((a.1 : Int) - 1))]) (fun a => σ.newTok 5 1 a.2.length)
    (fun a => a.2 ++ bigL n a.1 = bigL n size ∧ a.1 ≤ size) (fun a => a.1) ⟨(size, []), ⟨rfl, Nat.le_refl _⟩, ?_⟩ ?_
  · refine Weak.trans (Weak.full 5 5 1 (xs := []) rfl 0) ?_
    refine Weak.one hwf (Nat.le_refl _) ((Agree.refl _).newTok _ _ _) σ.next (by simp only [go_sem, ↓reduceIte, reduceCtorEq, Nat.reduceEqDiff, Nat.reduceLT, Nat.reduceLeDiff, Nat.reduceAdd, Nat.reduceMul, Nat.reduceSub, Nat.reduceBEq, Nat.reduceDiv, Int.reduceNeg, Int.reduceLT, Int.reduceLE, Int.reduceEq, Int.reduceToNat, Int.reduceAdd, Int.reduceSub, Int.reduceMul, Int.reduceBEq, Int.reduceBNe, reduceBEq]) (Nat.le_refl _) ?_
    refine all_cons (.pv _ _ _) (all_cons (.row0 rfl) (all_cons (.int _ _ ?_) all_nil))
    exact w64 (by omega) (by omega)
  · rintro ⟨r, L⟩ ⟨hL, hr⟩
    dsimp only at hL hr
    by_cases hd : 1 ≤ r
    · obtain ⟨r, rfl⟩ : ∃ q, r = q + 1 := ⟨r - 1, by omega⟩
      have d1 : decide ((((r + 1 : Nat) : Int) - 1) ≥ 0) = true := decide_eq_true (by omega)
      have hlen : L.length ≤ 8 := by have := congrArg List.length hL; simp [bigL_length] at this; omega
      have e1 : IntKind.i64.wrap (8 * (((r + 1 : Nat) : Int) - 1)) = 8 * (r : Int) := by rw [w64 (by omega) (by omega)]; omega
      have e3 : IntKind.u64.wrap (8 * (r : Int)) = 8 * (r : Int) := by rw [IntKind.wrap_u64]; omega
      have e2 : min (8 * (r : Int)).toNat 64 = 8 * r := by omega
      simp only [go_sem, ↓reduceIte, reduceCtorEq, Nat.reduceEqDiff, Nat.reduceLT, Nat.reduceLeDiff, Nat.reduceAdd, Nat.reduceMul, Nat.reduceSub, Nat.reduceBEq, Nat.reduceDiv, Int.reduceNeg, Int.reduceLT, Int.reduceLE, Int.reduceEq, Int.reduceToNat, Int.reduceAdd, Int.reduceSub, Int.reduceMul, Int.reduceBEq, Int.reduceBNe, reduceBEq, c30_l0, c30_r0, c30_r1, c30_r2, c30_r3, c30_r5, c30_r4, c30_r6, c30, d1, e1, e2, e3, byte_shr, encB_one, encB_append, encB_length]
      refine ⟨by omega, ⟨by omega, by simp only [maxLen]; omega⟩, (r, L ++ [UInt8.ofNat (n / 256 ^ r)]), ⟨by simpa [bigL] using hL, by omega⟩, by simp, ?_⟩
      refine Weak.one hwf (Nat.le_refl _) ((((Agree.refl _).newTok _ _ _).killTok (Nat.le_refl _)).newTok _ _ _) (σ.next + 1) (by simp only [go_sem, ↓reduceIte, reduceCtorEq, Nat.reduceEqDiff, Nat.reduceLT, Nat.reduceLeDiff, Nat.reduceAdd, Nat.reduceMul, Nat.reduceSub, Nat.reduceBEq, Nat.reduceDiv, Int.reduceNeg, Int.reduceLT, Int.reduceLE, Int.reduceEq, Int.reduceToNat, Int.reduceAdd, Int.reduceSub, Int.reduceMul, Int.reduceBEq, Int.reduceBNe, reduceBEq, encB_length, List.length_append]) (by omega) ?_
      refine all_cons (.pv _ _ _) (all_cons (.row0 rfl) (all_cons (.int _ _ ?_) all_nil))
      rw [w64 (by omega) (by omega)]; omega
    · have hd : r = 0 := by omega
      subst hd
      have d1 : decide ((((0 : Nat) : Int) - 1) ≥ 0) = false := by decide
      simp only [go_sem, ↓reduceIte, reduceCtorEq, Nat.reduceEqDiff, Nat.reduceLT, Nat.reduceLeDiff, Nat.reduceAdd, Nat.reduceMul, Nat.reduceSub, Nat.reduceBEq, Nat.reduceDiv, Int.reduceNeg, Int.reduceLT, Int.reduceLE, Int.reduceEq, Int.reduceToNat, Int.reduceAdd, Int.reduceSub, Int.reduceMul, Int.reduceBEq, Int.reduceBNe, reduceBEq, c30_l0, c30_r0, c30_r1, c30_r2, c30_r3, c30_r5, c30_r4, c30_r6, c30, d1]
      simp only [bigL, List.append_nil] at hL
      subst hL
      have hs' : (bigL n size).length = size := bigL_length n size
      exact ⟨_, _, _, rfl, WeakV.one (e := 5) (es := 1) (m := (bigL n size).length) hwf ((Agree.refl _).newTok _ _ _) σ.next (by simp only [go_sem, ↓reduceIte, reduceCtorEq, Nat.reduceEqDiff, Nat.reduceLT, Nat.reduceLeDiff, Nat.reduceAdd, Nat.reduceMul, Nat.reduceSub, Nat.reduceBEq, Nat.reduceDiv, Int.reduceNeg, Int.reduceLT, Int.reduceLE, Int.reduceEq, Int.reduceToNat, Int.reduceAdd, Int.reduceSub, Int.reduceMul, Int.reduceBEq, Int.reduceBNe, reduceBEq]) (Nat.le_refl _) (.row0 rfl), rfl, by rw [hs']⟩

theorem big_spec (n : Nat) (hn : n < 2 ^ 63) (size : Nat) (hs : size ≤ 7) (σ : Store) :
    ACalls Try.prog 30 [.int .i64 n, .int .i64 size] σ (fun x s => x = AV.bytes (bigL n size) ∧ s = σ) :=
  (big_row_spec n hn size hs σ).weak fun hwf x s ⟨hx, hs⟩ => by
    subst hx; subst hs
    exact ⟨_, _, WeakV.none hwf ((Agree.refl _).newTok _ _ _) (.list' (es := 1) rfl rfl), rfl, rfl⟩

theorem mixed : Try.prog.follows .mixedOrders = true := by kernel_rfl

/-- slices.Equal of bytes. -/
theorem equal_spec (a b : List UInt8) (ha : a.length < 2 ^ 62) (σ : Store) : ACalls Try.prog 34 [AV.bytes a, AV.bytes b] σ (fun x s => x = .bool (decide (a = b)) ∧ s = σ) := by
  refine ACalls.of_arun Try.func34 c34_eq c34_n c34_rs (by simp) fun hwf => ?_
  by_cases hl : a.length = b.length
  · have d1 : ((a.length : Int) != b.length) = false := by simp [hl]
    simp only [go_sem, ↓reduceIte, reduceCtorEq, Nat.reduceEqDiff, Nat.reduceLT, Nat.reduceLeDiff, Nat.reduceAdd, Nat.reduceMul, Nat.reduceSub, Nat.reduceBEq, Nat.reduceDiv, Int.reduceNeg, Int.reduceLT, Int.reduceLE, Int.reduceEq, Int.reduceToNat, Int.reduceAdd, Int.reduceSub, Int.reduceMul, Int.reduceBEq, Int.reduceBNe, reduceBEq, c34, c34_r0, c34_r1, d1, encB_length]
    simp only [go_sem, ↓reduceIte, reduceCtorEq, Nat.reduceEqDiff, Nat.reduceLT, Nat.reduceLeDiff, Nat.reduceAdd, Nat.reduceMul, Nat.reduceSub, Nat.reduceBEq, Nat.reduceDiv, Int.reduceNeg, Int.reduceLT, Int.reduceLE, Int.reduceEq, Int.reduceToNat, Int.reduceAdd, Int.reduceSub, Int.reduceMul, Int.reduceBEq, Int.reduceBNe, reduceBEq, c34_r3, encB_length]
    refine AWPc.loop (α := Nat) (fun i => [(0, AV.bytes a), (1, AV.bytes b), (12, .int .i64 (a.length : Int)), (13, .int .i64 i)]) (fun _ => σ) (fun i => i ≤ a.length ∧ a.take i = b.take i) (fun i => a.length - i) ⟨0, ⟨Nat.zero_le _, by simp⟩, Weak.slots (all_cons rfl (all_cons rfl (all_cons rfl (all_cons rfl all_nil))))⟩ ?_
    rintro i ⟨hi, ht⟩
    by_cases hd : i < a.length
    · have d2 : decide ((i : Int) < a.length) = true := decide_eq_true (by omega)
      have hdb : i < b.length := by omega
      simp only [go_sem, ↓reduceIte, reduceCtorEq, Nat.reduceEqDiff, Nat.reduceLT, Nat.reduceLeDiff, Nat.reduceAdd, Nat.reduceMul, Nat.reduceSub, Nat.reduceBEq, Nat.reduceDiv, Int.reduceNeg, Int.reduceLT, Int.reduceLE, Int.reduceEq, Int.reduceToNat, Int.reduceAdd, Int.reduceSub, Int.reduceMul, Int.reduceBEq, Int.reduceBNe, reduceBEq, c34_l0, c34_r4, d2, c34_r5]
      refine awpDreg mixed [] (by kernel_rfl) (by kernel_rfl) fun ops1 => ?_
      simp only [go_sem, ↓reduceIte, reduceCtorEq, Nat.reduceEqDiff, Nat.reduceLT, Nat.reduceLeDiff, Nat.reduceAdd, Nat.reduceMul, Nat.reduceSub, Nat.reduceBEq, Nat.reduceDiv, Int.reduceNeg, Int.reduceLT, Int.reduceLE, Int.reduceEq, Int.reduceToNat, Int.reduceAdd, Int.reduceSub, Int.reduceMul, Int.reduceBEq, Int.reduceBNe, reduceBEq, c34_d6_ops, encB_length, Int.toNat_natCast, encB_get hd, encB_get hdb]
      refine ⟨by omega, by omega, ?_⟩
      by_cases he : a[i] = b[i]
      · have d3 : ((a[i].toNat : Int) != b[i].toNat) = false := by simp [he]
        simp only [go_sem, ↓reduceIte, reduceCtorEq, Nat.reduceEqDiff, Nat.reduceLT, Nat.reduceLeDiff, Nat.reduceAdd, Nat.reduceMul, Nat.reduceSub, Nat.reduceBEq, Nat.reduceDiv, Int.reduceNeg, Int.reduceLT, Int.reduceLE, Int.reduceEq, Int.reduceToNat, Int.reduceAdd, Int.reduceSub, Int.reduceMul, Int.reduceBEq, Int.reduceBNe, reduceBEq, d3, c34_r8]
        refine ⟨i + 1, ⟨by omega, ?_⟩, by omega, ?_⟩
        · rw [List.take_add_one, List.take_add_one, List.getElem?_eq_getElem hd, List.getElem?_eq_getElem hdb, ht, he]
        · refine Weak.none hwf (Nat.le_refl _) (Agree.refl _) ?_
          refine all_cons (.pv _ _ _) (all_cons (.pv _ _ _) (all_cons (.pv _ _ _) (all_cons (.int _ _ ?_) all_nil)))
          rw [w64 (by omega) (by omega)]; simp
      · have d3 : ((a[i].toNat : Int) != b[i].toNat) = true := by
          have : a[i].toNat ≠ b[i].toNat := fun h => he (UInt8.toNat_inj.1 h)
          simp; omega
        simp only [go_sem, ↓reduceIte, reduceCtorEq, Nat.reduceEqDiff, Nat.reduceLT, Nat.reduceLeDiff, Nat.reduceAdd, Nat.reduceMul, Nat.reduceSub, Nat.reduceBEq, Nat.reduceDiv, Int.reduceNeg, Int.reduceLT, Int.reduceLE, Int.reduceEq, Int.reduceToNat, Int.reduceAdd, Int.reduceSub, Int.reduceMul, Int.reduceBEq, Int.reduceBNe, reduceBEq, d3, c34_r7]
        refine ⟨_, _, _, rfl, WeakV.refl _ _ _, ?_, rfl⟩
        have : a ≠ b := fun h => he (by subst h; rfl)
        simp [this]
    · have d2 : decide ((i : Int) < a.length) = false := decide_eq_false (by omega)
      have hia : i = a.length := by omega
      simp only [go_sem, ↓reduceIte, reduceCtorEq, Nat.reduceEqDiff, Nat.reduceLT, Nat.reduceLeDiff, Nat.reduceAdd, Nat.reduceMul, Nat.reduceSub, Nat.reduceBEq, Nat.reduceDiv, Int.reduceNeg, Int.reduceLT, Int.reduceLE, Int.reduceEq, Int.reduceToNat, Int.reduceAdd, Int.reduceSub, Int.reduceMul, Int.reduceBEq, Int.reduceBNe, reduceBEq, c34_l0, c34_r4, d2, c34_r9]
      refine ⟨_, _, _, rfl, WeakV.refl _ _ _, ?_, rfl⟩
      rw [hia, List.take_length, hl, List.take_length] at ht
      simp [ht]
  · have d1 : ((a.length : Int) != b.length) = true := by simp; omega
    simp only [go_sem, ↓reduceIte, reduceCtorEq, Nat.reduceEqDiff, Nat.reduceLT, Nat.reduceLeDiff, Nat.reduceAdd, Nat.reduceMul, Nat.reduceSub, Nat.reduceBEq, Nat.reduceDiv, Int.reduceNeg, Int.reduceLT, Int.reduceLE, Int.reduceEq, Int.reduceToNat, Int.reduceAdd, Int.reduceSub, Int.reduceMul, Int.reduceBEq, Int.reduceBNe, reduceBEq, c34, c34_r0, c34_r1, d1, encB_length]
    simp only [go_sem, ↓reduceIte, reduceCtorEq, Nat.reduceEqDiff, Nat.reduceLT, Nat.reduceLeDiff, Nat.reduceAdd, Nat.reduceMul, Nat.reduceSub, Nat.reduceBEq, Nat.reduceDiv, Int.reduceNeg, Int.reduceLT, Int.reduceLE, Int.reduceEq, Int.reduceToNat, Int.reduceAdd, Int.reduceSub, Int.reduceMul, Int.reduceBEq, Int.reduceBNe, reduceBEq, c34_r2]
    refine ⟨_, _, _, rfl, WeakV.refl _ _ _, ?_, rfl⟩
    have : a ≠ b := fun h => hl (by rw [h])
    simp [this]
end Go.Proofs.Ytnanpamfdjnomaa
