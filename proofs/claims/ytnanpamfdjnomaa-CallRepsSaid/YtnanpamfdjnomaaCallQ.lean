/- call: the reference's RightRep, LayRep, piece. -/
import Derived.Test.YtnanpamfdjnomaaCallN
namespace Go.Proofs.Ytnanpamfdjnomaa
open Go Go.RowKit Go.Proofs.Ytnanpamfdjnomaa.AL
set_option maxRecDepth 100000
set_option linter.unusedSimpArgs false

theorem bigI (n : Int) (h0 : 0 ≤ n) (hn : n < 2 ^ 63) (size : Nat) (hs : size ≤ 7) (σ : Store) :
    ACalls Try.prog 30 [.int .i64 n, .int .i64 size] σ (fun x s => x = AV.bytes (bigL n.toNat size) ∧ s = σ) := by
  obtain ⟨m, rfl⟩ := Int.eq_ofNat_of_zero_le h0
  exact big_spec m (by omega) size hs σ
theorem bigRowI (n : Int) (h0 : 0 ≤ n) (hn : n < 2 ^ 63) (size : Nat) (hs : size ≤ 7) (σ : Store) :
    ACalls Try.prog 30 [.int .i64 n, .int .i64 size] σ (fun x s => x = .row σ.next 1 (encB (bigL n.toNat size)) ∧ s = σ.newTok 5 1 size) := by
  obtain ⟨m, rfl⟩ := Int.eq_ofNat_of_zero_le h0
  exact big_row_spec m (by omega) size hs σ
theorem u8I (n : Int) (h0 : 0 ≤ n) : IntKind.u8.wrap n = ((UInt8.ofNat n.toNat).toNat : Int) := by
  obtain ⟨m, rfl⟩ := Int.eq_ofNat_of_zero_le h0
  exact u8_nat m

theorem rRight_spec (p : Rp) (hp : p.ps.length < 2 ^ 47) (hi : p.is.length < 2 ^ 47) (σ : Store) : ACalls Try.prog 22 [.agg p.avs] σ (fun x s => x = .bool (decide p.right) ∧ s = σ) := by
  refine ACalls.of_arun Try.func22 c22_eq c22_n c22_rs (by simp) fun hwf => ?_
  simp only [go_sem, ↓reduceIte, reduceCtorEq, Nat.reduceEqDiff, Nat.reduceLT, Nat.reduceLeDiff, Nat.reduceAdd, Nat.reduceMul, Nat.reduceSub, Nat.reduceBEq, Nat.reduceDiv, Int.reduceNeg, Int.reduceLT, Int.reduceLE, Int.reduceEq, Int.reduceToNat, Int.reduceAdd, Int.reduceSub, Int.reduceMul, Int.reduceBEq, Int.reduceBNe, reduceBEq, c22, c22_r0, c22_r1]
  refine AWPc.loop (α := Nat) (fun i => [(1, .ptr σ.next 0), (3, .int .i64 i)]) (fun _ => σ.newObj p.avs) (fun i => i ≤ p.ps.length ∧ ∀ y ∈ p.ps.take i, y.right) (fun i => p.ps.length - i)
    ⟨0, ⟨Nat.zero_le _, by simp⟩, Weak.slots (all_cons rfl (all_cons rfl all_nil))⟩ ?_
  rintro i ⟨hi', ht⟩
  by_cases hd : i < p.ps.length
  · have d1 : decide ((i : Int) < p.ps.length) = true := decide_eq_true (by omega)
    simp only [go_sem, ↓reduceIte, reduceCtorEq, Nat.reduceEqDiff, Nat.reduceLT, Nat.reduceLeDiff, Nat.reduceAdd, Nat.reduceMul, Nat.reduceSub, Nat.reduceBEq, Nat.reduceDiv, Int.reduceNeg, Int.reduceLT, Int.reduceLE, Int.reduceEq, Int.reduceToNat, Int.reduceAdd, Int.reduceSub, Int.reduceMul, Int.reduceBEq, Int.reduceBNe, reduceBEq, c22_l0, c22_r2, encP_length, d1]
    simp only [go_sem, ↓reduceIte, reduceCtorEq, Nat.reduceEqDiff, Nat.reduceLT, Nat.reduceLeDiff, Nat.reduceAdd, Nat.reduceMul, Nat.reduceSub, Nat.reduceBEq, Nat.reduceDiv, Int.reduceNeg, Int.reduceLT, Int.reduceLE, Int.reduceEq, Int.reduceToNat, Int.reduceAdd, Int.reduceSub, Int.reduceMul, Int.reduceBEq, Int.reduceBNe, reduceBEq, c22_r4, encP_length, Int.toNat_natCast, encP_get hd]
    refine ⟨by omega, (rRightP p.ps[i] _).mono fun y s' hy => ?_⟩
    obtain ⟨rfl, hs⟩ := hy
    have hs := hs.symm; subst hs
    by_cases hr : p.ps[i].right
    · have d2 : (!decide p.ps[i].right) = false := by simp [hr]
      simp only [go_sem, ↓reduceIte, reduceCtorEq, Nat.reduceEqDiff, Nat.reduceLT, Nat.reduceLeDiff, Nat.reduceAdd, Nat.reduceMul, Nat.reduceSub, Nat.reduceBEq, Nat.reduceDiv, Int.reduceNeg, Int.reduceLT, Int.reduceLE, Int.reduceEq, Int.reduceToNat, Int.reduceAdd, Int.reduceSub, Int.reduceMul, Int.reduceBEq, Int.reduceBNe, reduceBEq, d2, c22_r3]
      refine ⟨i + 1, ⟨by omega, ?_⟩, by omega, ?_⟩
      · rw [take_snoc' hd]
        intro y hy
        rcases List.mem_append.1 hy with h | h
        · exact ht y h
        · rw [List.mem_singleton.1 h]; exact hr
      · refine Weak.slots (all_cons rfl (all_cons ?_ all_nil))
        simp only [go_sem, ↓reduceIte, reduceCtorEq, Nat.reduceEqDiff, Nat.reduceLT, Nat.reduceLeDiff, Nat.reduceAdd, Nat.reduceMul, Nat.reduceSub, Nat.reduceBEq, Nat.reduceDiv, Int.reduceNeg, Int.reduceLT, Int.reduceLE, Int.reduceEq, Int.reduceToNat, Int.reduceAdd, Int.reduceSub, Int.reduceMul, Int.reduceBEq, Int.reduceBNe, reduceBEq]
        rw [w64 (by omega) (by omega)]; rfl
    · have d2 : (!decide p.ps[i].right) = true := by simp [hr]
      simp only [go_sem, ↓reduceIte, reduceCtorEq, Nat.reduceEqDiff, Nat.reduceLT, Nat.reduceLeDiff, Nat.reduceAdd, Nat.reduceMul, Nat.reduceSub, Nat.reduceBEq, Nat.reduceDiv, Int.reduceNeg, Int.reduceLT, Int.reduceLE, Int.reduceEq, Int.reduceToNat, Int.reduceAdd, Int.reduceSub, Int.reduceMul, Int.reduceBEq, Int.reduceBNe, reduceBEq, d2, c22_r5]
      exact ⟨_, _, _, rfl, WeakV.none hwf (by repeat (first | exact Agree.refl _ | refine Agree.newObj ?_ _ | refine Agree.newTok ?_ _ _ _ | refine Agree.killTok ?_ (by first | omega | (simp only [go_sem] <;> omega)) | refine Agree.setObj ?_ (by first | omega | (simp only [go_sem] <;> omega)) _ | refine Agree.dropObj ?_ (by first | omega | (simp only [go_sem] <;> omega)))) (.pv _ _ _), by rw [decide_eq_false (fun h : p.right => hr (h.p1 _ (List.getElem_mem hd)))], rfl⟩
  have hi' : i = p.ps.length := by omega
  subst hi'
  have d1 : decide ((p.ps.length : Int) < p.ps.length) = false := decide_eq_false (by omega)
  rw [List.take_length] at ht
  have htP := ht
  clear ht
  simp only [go_sem, ↓reduceIte, reduceCtorEq, Nat.reduceEqDiff, Nat.reduceLT, Nat.reduceLeDiff, Nat.reduceAdd, Nat.reduceMul, Nat.reduceSub, Nat.reduceBEq, Nat.reduceDiv, Int.reduceNeg, Int.reduceLT, Int.reduceLE, Int.reduceEq, Int.reduceToNat, Int.reduceAdd, Int.reduceSub, Int.reduceMul, Int.reduceBEq, Int.reduceBNe, reduceBEq, c22_l0, c22_r2, encP_length, d1]
  simp only [go_sem, ↓reduceIte, reduceCtorEq, Nat.reduceEqDiff, Nat.reduceLT, Nat.reduceLeDiff, Nat.reduceAdd, Nat.reduceMul, Nat.reduceSub, Nat.reduceBEq, Nat.reduceDiv, Int.reduceNeg, Int.reduceLT, Int.reduceLE, Int.reduceEq, Int.reduceToNat, Int.reduceAdd, Int.reduceSub, Int.reduceMul, Int.reduceBEq, Int.reduceBNe, reduceBEq, c22_r6]
  refine AWPc.loop (α := Nat) (fun i => [(1, .ptr σ.next 0), (4, .int .i64 i)]) (fun _ => σ.newObj p.avs) (fun i => i ≤ p.is.length ∧ ∀ y ∈ p.is.take i, y.right) (fun i => p.is.length - i)
    ⟨0, ⟨Nat.zero_le _, by simp⟩, Weak.slots (all_cons rfl (all_cons rfl all_nil))⟩ ?_
  rintro i ⟨hi', ht⟩
  by_cases hd : i < p.is.length
  · have d1 : decide ((i : Int) < p.is.length) = true := decide_eq_true (by omega)
    simp only [go_sem, ↓reduceIte, reduceCtorEq, Nat.reduceEqDiff, Nat.reduceLT, Nat.reduceLeDiff, Nat.reduceAdd, Nat.reduceMul, Nat.reduceSub, Nat.reduceBEq, Nat.reduceDiv, Int.reduceNeg, Int.reduceLT, Int.reduceLE, Int.reduceEq, Int.reduceToNat, Int.reduceAdd, Int.reduceSub, Int.reduceMul, Int.reduceBEq, Int.reduceBNe, reduceBEq, c22_l1, c22_r7, encI_length, d1]
    simp only [go_sem, ↓reduceIte, reduceCtorEq, Nat.reduceEqDiff, Nat.reduceLT, Nat.reduceLeDiff, Nat.reduceAdd, Nat.reduceMul, Nat.reduceSub, Nat.reduceBEq, Nat.reduceDiv, Int.reduceNeg, Int.reduceLT, Int.reduceLE, Int.reduceEq, Int.reduceToNat, Int.reduceAdd, Int.reduceSub, Int.reduceMul, Int.reduceBEq, Int.reduceBNe, reduceBEq, c22_r9, encI_length, Int.toNat_natCast, encI_get hd]
    refine ⟨by omega, (rRightI p.is[i] _).mono fun y s' hy => ?_⟩
    obtain ⟨rfl, hs⟩ := hy
    have hs := hs.symm; subst hs
    by_cases hr : p.is[i].right
    · have d2 : (!decide p.is[i].right) = false := by simp [hr]
      simp only [go_sem, ↓reduceIte, reduceCtorEq, Nat.reduceEqDiff, Nat.reduceLT, Nat.reduceLeDiff, Nat.reduceAdd, Nat.reduceMul, Nat.reduceSub, Nat.reduceBEq, Nat.reduceDiv, Int.reduceNeg, Int.reduceLT, Int.reduceLE, Int.reduceEq, Int.reduceToNat, Int.reduceAdd, Int.reduceSub, Int.reduceMul, Int.reduceBEq, Int.reduceBNe, reduceBEq, d2, c22_r8]
      refine ⟨i + 1, ⟨by omega, ?_⟩, by omega, ?_⟩
      · rw [take_snoc' hd]
        intro y hy
        rcases List.mem_append.1 hy with h | h
        · exact ht y h
        · rw [List.mem_singleton.1 h]; exact hr
      · refine Weak.slots (all_cons rfl (all_cons ?_ all_nil))
        simp only [go_sem, ↓reduceIte, reduceCtorEq, Nat.reduceEqDiff, Nat.reduceLT, Nat.reduceLeDiff, Nat.reduceAdd, Nat.reduceMul, Nat.reduceSub, Nat.reduceBEq, Nat.reduceDiv, Int.reduceNeg, Int.reduceLT, Int.reduceLE, Int.reduceEq, Int.reduceToNat, Int.reduceAdd, Int.reduceSub, Int.reduceMul, Int.reduceBEq, Int.reduceBNe, reduceBEq]
        rw [w64 (by omega) (by omega)]; rfl
    · have d2 : (!decide p.is[i].right) = true := by simp [hr]
      simp only [go_sem, ↓reduceIte, reduceCtorEq, Nat.reduceEqDiff, Nat.reduceLT, Nat.reduceLeDiff, Nat.reduceAdd, Nat.reduceMul, Nat.reduceSub, Nat.reduceBEq, Nat.reduceDiv, Int.reduceNeg, Int.reduceLT, Int.reduceLE, Int.reduceEq, Int.reduceToNat, Int.reduceAdd, Int.reduceSub, Int.reduceMul, Int.reduceBEq, Int.reduceBNe, reduceBEq, d2, c22_r10]
      exact ⟨_, _, _, rfl, WeakV.none hwf (by repeat (first | exact Agree.refl _ | refine Agree.newObj ?_ _ | refine Agree.newTok ?_ _ _ _ | refine Agree.killTok ?_ (by first | omega | (simp only [go_sem] <;> omega)) | refine Agree.setObj ?_ (by first | omega | (simp only [go_sem] <;> omega)) _ | refine Agree.dropObj ?_ (by first | omega | (simp only [go_sem] <;> omega)))) (.pv _ _ _), by rw [decide_eq_false (fun h : p.right => hr (h.i1 _ (List.getElem_mem hd)))], rfl⟩
  have hi' : i = p.is.length := by omega
  subst hi'
  have d1 : decide ((p.is.length : Int) < p.is.length) = false := decide_eq_false (by omega)
  rw [List.take_length] at ht
  have htI := ht
  clear ht
  simp only [go_sem, ↓reduceIte, reduceCtorEq, Nat.reduceEqDiff, Nat.reduceLT, Nat.reduceLeDiff, Nat.reduceAdd, Nat.reduceMul, Nat.reduceSub, Nat.reduceBEq, Nat.reduceDiv, Int.reduceNeg, Int.reduceLT, Int.reduceLE, Int.reduceEq, Int.reduceToNat, Int.reduceAdd, Int.reduceSub, Int.reduceMul, Int.reduceBEq, Int.reduceBNe, reduceBEq, c22_l1, c22_r7, encI_length, d1]
  by_cases h0 : 0 ≤ p.cd
  case neg =>
    have e0 : decide (p.cd ≥ 0) = false := decide_eq_false (by omega)
    simp only [go_sem, ↓reduceIte, reduceCtorEq, Nat.reduceEqDiff, Nat.reduceLT, Nat.reduceLeDiff, Nat.reduceAdd, Nat.reduceMul, Nat.reduceSub, Nat.reduceBEq, Nat.reduceDiv, Int.reduceNeg, Int.reduceLT, Int.reduceLE, Int.reduceEq, Int.reduceToNat, Int.reduceAdd, Int.reduceSub, Int.reduceMul, Int.reduceBEq, Int.reduceBNe, reduceBEq, c22_r11, encP_length, encI_length, e0]
    exact ⟨_, _, _, rfl, WeakV.none hwf (by repeat (first | exact Agree.refl _ | refine Agree.newObj ?_ _ | refine Agree.newTok ?_ _ _ _ | refine Agree.killTok ?_ (by first | omega | (simp only [go_sem] <;> omega)) | refine Agree.setObj ?_ (by first | omega | (simp only [go_sem] <;> omega)) _ | refine Agree.dropObj ?_ (by first | omega | (simp only [go_sem] <;> omega)))) (.pv _ _ _), by rw [decide_eq_false (fun h : p.right => h0 h.c1)], rfl⟩
  have e0 : decide (p.cd ≥ 0) = true := decide_eq_true (by omega)
  by_cases h1 : p.cd ≤ 255
  case neg =>
    have e1 : decide (p.cd ≤ 255) = false := decide_eq_false (by omega)
    simp only [go_sem, ↓reduceIte, reduceCtorEq, Nat.reduceEqDiff, Nat.reduceLT, Nat.reduceLeDiff, Nat.reduceAdd, Nat.reduceMul, Nat.reduceSub, Nat.reduceBEq, Nat.reduceDiv, Int.reduceNeg, Int.reduceLT, Int.reduceLE, Int.reduceEq, Int.reduceToNat, Int.reduceAdd, Int.reduceSub, Int.reduceMul, Int.reduceBEq, Int.reduceBNe, reduceBEq, c22_r11, encP_length, encI_length, e0, e1]
    exact ⟨_, _, _, rfl, WeakV.none hwf (by repeat (first | exact Agree.refl _ | refine Agree.newObj ?_ _ | refine Agree.newTok ?_ _ _ _ | refine Agree.killTok ?_ (by first | omega | (simp only [go_sem] <;> omega)) | refine Agree.setObj ?_ (by first | omega | (simp only [go_sem] <;> omega)) _ | refine Agree.dropObj ?_ (by first | omega | (simp only [go_sem] <;> omega)))) (.pv _ _ _), by rw [decide_eq_false (fun h : p.right => h1 h.c2)], rfl⟩
  have e1 : decide (p.cd ≤ 255) = true := decide_eq_true (by omega)
  by_cases h2 : 0 ≤ p.bt
  case neg =>
    have e2 : decide (p.bt ≥ 0) = false := decide_eq_false (by omega)
    simp only [go_sem, ↓reduceIte, reduceCtorEq, Nat.reduceEqDiff, Nat.reduceLT, Nat.reduceLeDiff, Nat.reduceAdd, Nat.reduceMul, Nat.reduceSub, Nat.reduceBEq, Nat.reduceDiv, Int.reduceNeg, Int.reduceLT, Int.reduceLE, Int.reduceEq, Int.reduceToNat, Int.reduceAdd, Int.reduceSub, Int.reduceMul, Int.reduceBEq, Int.reduceBNe, reduceBEq, c22_r11, encP_length, encI_length, e0, e1, e2]
    exact ⟨_, _, _, rfl, WeakV.none hwf (by repeat (first | exact Agree.refl _ | refine Agree.newObj ?_ _ | refine Agree.newTok ?_ _ _ _ | refine Agree.killTok ?_ (by first | omega | (simp only [go_sem] <;> omega)) | refine Agree.setObj ?_ (by first | omega | (simp only [go_sem] <;> omega)) _ | refine Agree.dropObj ?_ (by first | omega | (simp only [go_sem] <;> omega)))) (.pv _ _ _), by rw [decide_eq_false (fun h : p.right => h2 h.b1)], rfl⟩
  have e2 : decide (p.bt ≥ 0) = true := decide_eq_true (by omega)
  by_cases h3 : p.bt ≤ 2147483647
  case neg =>
    have e3 : decide (p.bt ≤ 2147483647) = false := decide_eq_false (by omega)
    simp only [go_sem, ↓reduceIte, reduceCtorEq, Nat.reduceEqDiff, Nat.reduceLT, Nat.reduceLeDiff, Nat.reduceAdd, Nat.reduceMul, Nat.reduceSub, Nat.reduceBEq, Nat.reduceDiv, Int.reduceNeg, Int.reduceLT, Int.reduceLE, Int.reduceEq, Int.reduceToNat, Int.reduceAdd, Int.reduceSub, Int.reduceMul, Int.reduceBEq, Int.reduceBNe, reduceBEq, c22_r11, encP_length, encI_length, e0, e1, e2, e3]
    exact ⟨_, _, _, rfl, WeakV.none hwf (by repeat (first | exact Agree.refl _ | refine Agree.newObj ?_ _ | refine Agree.newTok ?_ _ _ _ | refine Agree.killTok ?_ (by first | omega | (simp only [go_sem] <;> omega)) | refine Agree.setObj ?_ (by first | omega | (simp only [go_sem] <;> omega)) _ | refine Agree.dropObj ?_ (by first | omega | (simp only [go_sem] <;> omega)))) (.pv _ _ _), by rw [decide_eq_false (fun h : p.right => h3 h.b2)], rfl⟩
  have e3 : decide (p.bt ≤ 2147483647) = true := decide_eq_true (by omega)
  by_cases h4 : p.ps.length ≤ 2
  case neg =>
    have e4 : decide ((p.ps.length : Int) ≤ 2) = false := decide_eq_false (by omega)
    simp only [go_sem, ↓reduceIte, reduceCtorEq, Nat.reduceEqDiff, Nat.reduceLT, Nat.reduceLeDiff, Nat.reduceAdd, Nat.reduceMul, Nat.reduceSub, Nat.reduceBEq, Nat.reduceDiv, Int.reduceNeg, Int.reduceLT, Int.reduceLE, Int.reduceEq, Int.reduceToNat, Int.reduceAdd, Int.reduceSub, Int.reduceMul, Int.reduceBEq, Int.reduceBNe, reduceBEq, c22_r11, encP_length, encI_length, e0, e1, e2, e3, e4]
    exact ⟨_, _, _, rfl, WeakV.none hwf (by repeat (first | exact Agree.refl _ | refine Agree.newObj ?_ _ | refine Agree.newTok ?_ _ _ _ | refine Agree.killTok ?_ (by first | omega | (simp only [go_sem] <;> omega)) | refine Agree.setObj ?_ (by first | omega | (simp only [go_sem] <;> omega)) _ | refine Agree.dropObj ?_ (by first | omega | (simp only [go_sem] <;> omega)))) (.pv _ _ _), by rw [decide_eq_false (fun h : p.right => h4 h.p2)], rfl⟩
  have e4 : decide ((p.ps.length : Int) ≤ 2) = true := decide_eq_true (by omega)
  by_cases h5 : p.is.length ≤ 16
  case neg =>
    have e5 : decide ((p.is.length : Int) ≤ 16) = false := decide_eq_false (by omega)
    simp only [go_sem, ↓reduceIte, reduceCtorEq, Nat.reduceEqDiff, Nat.reduceLT, Nat.reduceLeDiff, Nat.reduceAdd, Nat.reduceMul, Nat.reduceSub, Nat.reduceBEq, Nat.reduceDiv, Int.reduceNeg, Int.reduceLT, Int.reduceLE, Int.reduceEq, Int.reduceToNat, Int.reduceAdd, Int.reduceSub, Int.reduceMul, Int.reduceBEq, Int.reduceBNe, reduceBEq, c22_r11, encP_length, encI_length, e0, e1, e2, e3, e4, e5]
    exact ⟨_, _, _, rfl, WeakV.none hwf (by repeat (first | exact Agree.refl _ | refine Agree.newObj ?_ _ | refine Agree.newTok ?_ _ _ _ | refine Agree.killTok ?_ (by first | omega | (simp only [go_sem] <;> omega)) | refine Agree.setObj ?_ (by first | omega | (simp only [go_sem] <;> omega)) _ | refine Agree.dropObj ?_ (by first | omega | (simp only [go_sem] <;> omega)))) (.pv _ _ _), by rw [decide_eq_false (fun h : p.right => h5 h.i2)], rfl⟩
  have e5 : decide ((p.is.length : Int) ≤ 16) = true := decide_eq_true (by omega)
  simp only [go_sem, ↓reduceIte, reduceCtorEq, Nat.reduceEqDiff, Nat.reduceLT, Nat.reduceLeDiff, Nat.reduceAdd, Nat.reduceMul, Nat.reduceSub, Nat.reduceBEq, Nat.reduceDiv, Int.reduceNeg, Int.reduceLT, Int.reduceLE, Int.reduceEq, Int.reduceToNat, Int.reduceAdd, Int.reduceSub, Int.reduceMul, Int.reduceBEq, Int.reduceBNe, reduceBEq, c22_r11, encP_length, encI_length, e0, e1, e2, e3, e4, e5]
  exact ⟨_, _, _, rfl, WeakV.none hwf (by repeat (first | exact Agree.refl _ | refine Agree.newObj ?_ _ | refine Agree.newTok ?_ _ _ _ | refine Agree.killTok ?_ (by first | omega | (simp only [go_sem] <;> omega)) | refine Agree.setObj ?_ (by first | omega | (simp only [go_sem] <;> omega)) _ | refine Agree.dropObj ?_ (by first | omega | (simp only [go_sem] <;> omega)))) (.pv _ _ _), by rw [decide_eq_true (⟨htP, htI, h0, h1, h2, h3, h4, h5⟩ : p.right)], rfl⟩

theorem pieceBytes_spec (p : Pc) (hr : p.right) (σ : Store) : ACalls Try.prog 41 [.agg p.avs] σ (fun x s => x = AV.bytes p.lay ∧ s = σ) := by
  refine ACalls.of_awpc Try.func41 c41_eq c41_n c41_rs (by simp) fun hwf => ?_
  obtain ⟨s1, s2, g1, g2, i1, i2, d1⟩ := hr
  unfold c41
  refine AWPc.step ?_
  simp only [go_sem, ↓reduceIte, reduceCtorEq, Nat.reduceEqDiff, Nat.reduceLT, Nat.reduceLeDiff, Nat.reduceAdd, Nat.reduceMul, Nat.reduceSub, Nat.reduceBEq, Nat.reduceDiv, Int.reduceNeg, Int.reduceLT, Int.reduceLE, Int.reduceEq, Int.reduceToNat, Int.reduceAdd, Int.reduceSub, Int.reduceMul, Int.reduceBEq, Int.reduceBNe, reduceBEq, c41_r0]
  refine AWPc.step ?_
  simp only [go_sem, ↓reduceIte, reduceCtorEq, Nat.reduceEqDiff, Nat.reduceLT, Nat.reduceLeDiff, Nat.reduceAdd, Nat.reduceMul, Nat.reduceSub, Nat.reduceBEq, Nat.reduceDiv, Int.reduceNeg, Int.reduceLT, Int.reduceLE, Int.reduceEq, Int.reduceToNat, Int.reduceAdd, Int.reduceSub, Int.reduceMul, Int.reduceBEq, Int.reduceBNe, reduceBEq]
  refine awpDreg mixed [2, 6] (by kernel_rfl) (by kernel_rfl) fun ops1 => ?_
  simp only [go_sem, ↓reduceIte, reduceCtorEq, Nat.reduceEqDiff, Nat.reduceLT, Nat.reduceLeDiff, Nat.reduceAdd, Nat.reduceMul, Nat.reduceSub, Nat.reduceBEq, Nat.reduceDiv, Int.reduceNeg, Int.reduceLT, Int.reduceLE, Int.reduceEq, Int.reduceToNat, Int.reduceAdd, Int.reduceSub, Int.reduceMul, Int.reduceBEq, Int.reduceBNe, reduceBEq, c41_d1_ops]
  refine ⟨_, _, bigRowI p.st s1 (by omega) 1 (by omega) _, ?_⟩
  simp only [go_sem, ↓reduceIte, reduceCtorEq, Nat.reduceEqDiff, Nat.reduceLT, Nat.reduceLeDiff, Nat.reduceAdd, Nat.reduceMul, Nat.reduceSub, Nat.reduceBEq, Nat.reduceDiv, Int.reduceNeg, Int.reduceLT, Int.reduceLE, Int.reduceEq, Int.reduceToNat, Int.reduceAdd, Int.reduceSub, Int.reduceMul, Int.reduceBEq, Int.reduceBNe, reduceBEq]
  refine dregFn_fn call_30 (fun τ => bigI p.gn (by omega) (by omega) 6 (by omega) τ) (by simp only [go_sem, ↓reduceIte, reduceCtorEq, Nat.reduceEqDiff, Nat.reduceLT, Nat.reduceLeDiff, Nat.reduceAdd, Nat.reduceMul, Nat.reduceSub, Nat.reduceBEq, Nat.reduceDiv, Int.reduceNeg, Int.reduceLT, Int.reduceLE, Int.reduceEq, Int.reduceToNat, Int.reduceAdd, Int.reduceSub, Int.reduceMul, Int.reduceBEq, Int.reduceBNe, reduceBEq]; rfl) rfl rfl ?_
  simp only [go_sem, ↓reduceIte, reduceCtorEq, Nat.reduceEqDiff, Nat.reduceLT, Nat.reduceLeDiff, Nat.reduceAdd, Nat.reduceMul, Nat.reduceSub, Nat.reduceBEq, Nat.reduceDiv, Int.reduceNeg, Int.reduceLT, Int.reduceLE, Int.reduceEq, Int.reduceToNat, Int.reduceAdd, Int.reduceSub, Int.reduceMul, Int.reduceBEq, Int.reduceBNe, reduceBEq, maxLen, Nat.reducePow, encB_length, bigL_length, encB_append]
  refine AWPc.step ?_
  simp only [go_sem, ↓reduceIte, reduceCtorEq, Nat.reduceEqDiff, Nat.reduceLT, Nat.reduceLeDiff, Nat.reduceAdd, Nat.reduceMul, Nat.reduceSub, Nat.reduceBEq, Nat.reduceDiv, Int.reduceNeg, Int.reduceLT, Int.reduceLE, Int.reduceEq, Int.reduceToNat, Int.reduceAdd, Int.reduceSub, Int.reduceMul, Int.reduceBEq, Int.reduceBNe, reduceBEq, maxLen, Nat.reducePow, c41_r2, u8I p.ix i1, encB_one, encB_length, bigL_length, encB_append, List.length_append]
  refine AWPc.of_arun ?_
  simp only [go_sem, ↓reduceIte, reduceCtorEq, Nat.reduceEqDiff, Nat.reduceLT, Nat.reduceLeDiff, Nat.reduceAdd, Nat.reduceMul, Nat.reduceSub, Nat.reduceBEq, Nat.reduceDiv, Int.reduceNeg, Int.reduceLT, Int.reduceLE, Int.reduceEq, Int.reduceToNat, Int.reduceAdd, Int.reduceSub, Int.reduceMul, Int.reduceBEq, Int.reduceBNe, reduceBEq, maxLen, Nat.reducePow, c41_r3, encB_length, bigL_length, encB_append, List.length_append, d1]
  refine ⟨_, _, _, rfl, WeakV.none hwf (by repeat (first | exact Agree.refl _ | refine Agree.newObj ?_ _ | refine Agree.newTok ?_ _ _ _ | refine Agree.killTok ?_ (by first | omega | (simp only [go_sem] <;> omega)) | refine Agree.setObj ?_ (by first | omega | (simp only [go_sem] <;> omega)) _ | refine Agree.dropObj ?_ (by first | omega | (simp only [go_sem] <;> omega)))) (.list' (es := 1) rfl ?_), rfl, rfl⟩
  simp [Pc.lay, bigL_one]

theorem refLayRep_spec (p : Rp) (hr : p.right) (σ : Store) : ACalls Try.prog 23 [.agg p.avs] σ (fun x s => x = AV.bytes p.lay ∧ s = σ) := by
  refine ACalls.of_arun Try.func23 c23_eq c23_n c23_rs (by simp) fun hwf => ?_
  obtain ⟨hps, his, c1, c2, b1, b2, p2, i2⟩ := hr
  simp only [go_sem, ↓reduceIte, reduceCtorEq, Nat.reduceEqDiff, Nat.reduceLT, Nat.reduceLeDiff, Nat.reduceAdd, Nat.reduceMul, Nat.reduceSub, Nat.reduceBEq, Nat.reduceDiv, Int.reduceNeg, Int.reduceLT, Int.reduceLE, Int.reduceEq, Int.reduceToNat, Int.reduceAdd, Int.reduceSub, Int.reduceMul, Int.reduceBEq, Int.reduceBNe, reduceBEq, c23, c23_r0]
  refine awpDreg mixed [2, 6] (by kernel_rfl) (by kernel_rfl) fun ops1 => ?_
  simp only [go_sem, ↓reduceIte, reduceCtorEq, Nat.reduceEqDiff, Nat.reduceLT, Nat.reduceLeDiff, Nat.reduceAdd, Nat.reduceMul, Nat.reduceSub, Nat.reduceBEq, Nat.reduceDiv, Int.reduceNeg, Int.reduceLT, Int.reduceLE, Int.reduceEq, Int.reduceToNat, Int.reduceAdd, Int.reduceSub, Int.reduceMul, Int.reduceBEq, Int.reduceBNe, reduceBEq, c23_d1_ops]
  refine ⟨_, _, bigRowI p.cd c1 (by omega) 1 (by omega) _, ?_⟩
  simp only [go_sem, ↓reduceIte, reduceCtorEq, Nat.reduceEqDiff, Nat.reduceLT, Nat.reduceLeDiff, Nat.reduceAdd, Nat.reduceMul, Nat.reduceSub, Nat.reduceBEq, Nat.reduceDiv, Int.reduceNeg, Int.reduceLT, Int.reduceLE, Int.reduceEq, Int.reduceToNat, Int.reduceAdd, Int.reduceSub, Int.reduceMul, Int.reduceBEq, Int.reduceBNe, reduceBEq]
  refine dregFn_fn call_30 (fun τ => bigI p.bt b1 (by omega) 4 (by omega) τ) (by simp only [go_sem, ↓reduceIte, reduceCtorEq, Nat.reduceEqDiff, Nat.reduceLT, Nat.reduceLeDiff, Nat.reduceAdd, Nat.reduceMul, Nat.reduceSub, Nat.reduceBEq, Nat.reduceDiv, Int.reduceNeg, Int.reduceLT, Int.reduceLE, Int.reduceEq, Int.reduceToNat, Int.reduceAdd, Int.reduceSub, Int.reduceMul, Int.reduceBEq, Int.reduceBNe, reduceBEq]; rfl) rfl rfl ?_
  have hhd : bigL p.cd.toNat 1 ++ bigL p.bt.toNat 4 ++ [UInt8.ofNat p.ps.length] = p.hd := by rw [Rp.hd, bigL_one p.ps.length]
  simp only [go_sem, ↓reduceIte, reduceCtorEq, Nat.reduceEqDiff, Nat.reduceLT, Nat.reduceLeDiff, Nat.reduceAdd, Nat.reduceMul, Nat.reduceSub, Nat.reduceBEq, Nat.reduceDiv, Int.reduceNeg, Int.reduceLT, Int.reduceLE, Int.reduceEq, Int.reduceToNat, Int.reduceAdd, Int.reduceSub, Int.reduceMul, Int.reduceBEq, Int.reduceBNe, reduceBEq, maxLen, Nat.reducePow, encB_length, bigL_length, encB_append]
  simp only [go_sem, ↓reduceIte, reduceCtorEq, Nat.reduceEqDiff, Nat.reduceLT, Nat.reduceLeDiff, Nat.reduceAdd, Nat.reduceMul, Nat.reduceSub, Nat.reduceBEq, Nat.reduceDiv, Int.reduceNeg, Int.reduceLT, Int.reduceLE, Int.reduceEq, Int.reduceToNat, Int.reduceAdd, Int.reduceSub, Int.reduceMul, Int.reduceBEq, Int.reduceBNe, reduceBEq, maxLen, Nat.reducePow, c23_r2, encP_length, u8_nat, encB_one, encB_length, bigL_length, encB_append, List.length_append, hhd]
  simp only [go_sem, ↓reduceIte, reduceCtorEq, Nat.reduceEqDiff, Nat.reduceLT, Nat.reduceLeDiff, Nat.reduceAdd, Nat.reduceMul, Nat.reduceSub, Nat.reduceBEq, Nat.reduceDiv, Int.reduceNeg, Int.reduceLT, Int.reduceLE, Int.reduceEq, Int.reduceToNat, Int.reduceAdd, Int.reduceSub, Int.reduceMul, Int.reduceBEq, Int.reduceBNe, reduceBEq, c23_r3]
  refine AWPc.loop (α := Nat) (fun i => [(1, .ptr σ.next 0), (3, .row (σ.next + 1) 1 (encB (p.hd ++ layPs (p.ps.take i)))), (4, .int .i64 i)]) (fun i => (σ.newObj p.avs).newTok 5 1 (p.hd ++ layPs (p.ps.take i)).length) (fun i => i ≤ p.ps.length) (fun i => p.ps.length - i)
    ⟨0, Nat.zero_le _, ?_⟩ ?_
  · refine Weak.one (hwf.newObj (Rp.avs_lt p _)) (Nat.le_succ _) (by repeat (first | exact Agree.refl _ | refine Agree.newObj ?_ _ | refine Agree.newTok ?_ _ _ _ | refine Agree.killTok ?_ (by first | omega | (simp only [go_sem] <;> omega)) | refine Agree.setObj ?_ (by first | omega | (simp only [go_sem] <;> omega)) _ | refine Agree.dropObj ?_ (by first | omega | (simp only [go_sem] <;> omega)))) (σ.next + 1 + 1 + 1) (by simp only [go_sem, ↓reduceIte, reduceCtorEq, Nat.reduceEqDiff, Nat.reduceLT, Nat.reduceLeDiff, Nat.reduceAdd, Nat.reduceMul, Nat.reduceSub, Nat.reduceBEq, Nat.reduceDiv, Int.reduceNeg, Int.reduceLT, Int.reduceLE, Int.reduceEq, Int.reduceToNat, Int.reduceAdd, Int.reduceSub, Int.reduceMul, Int.reduceBEq, Int.reduceBNe, reduceBEq]; simp [layPs, Rp.hd_length]) (by simp only [go_sem, ↓reduceIte, reduceCtorEq, Nat.reduceEqDiff, Nat.reduceLT, Nat.reduceLeDiff, Nat.reduceAdd, Nat.reduceMul, Nat.reduceSub, Nat.reduceBEq, Nat.reduceDiv, Int.reduceNeg, Int.reduceLT, Int.reduceLE, Int.reduceEq, Int.reduceToNat, Int.reduceAdd, Int.reduceSub, Int.reduceMul, Int.reduceBEq, Int.reduceBNe, reduceBEq]) ?_
    exact all_cons (.same (by simp only [go_sem, ↓reduceIte, reduceCtorEq, Nat.reduceEqDiff, Nat.reduceLT, Nat.reduceLeDiff, Nat.reduceAdd, Nat.reduceMul, Nat.reduceSub, Nat.reduceBEq, Nat.reduceDiv, Int.reduceNeg, Int.reduceLT, Int.reduceLE, Int.reduceEq, Int.reduceToNat, Int.reduceAdd, Int.reduceSub, Int.reduceMul, Int.reduceBEq, Int.reduceBNe, reduceBEq]; simp)) (all_cons (.row0 (by simp [layPs])) (all_cons (.pv _ _ _) all_nil))
  intro i hi'
  have hL := layPs_length (right_take hps i)
  by_cases hd : i < p.ps.length
  · have d1 : decide ((i : Int) < p.ps.length) = true := decide_eq_true (by omega)
    have hL' : (List.take i p.ps).length ≤ 2 := by rw [List.length_take]; omega
    have hpr := hps _ (List.getElem_mem hd)
    have hpl := Pc.lay_length p.ps[i]
    have hp1 := hpr.d1
    have e : p.hd ++ layPs (p.ps.take i) ++ p.ps[i].lay = p.hd ++ layPs (p.ps.take (i + 1)) := by rw [take_snoc' hd, layPs_snoc, List.append_assoc]
    have el : (p.hd ++ layPs (p.ps.take i)).length + p.ps[i].lay.length = (p.hd ++ layPs (p.ps.take (i + 1))).length := List.length_append.symm.trans (congrArg List.length e)
    have hll : (p.hd ++ layPs (p.ps.take i)).length = 6 + 40 * (List.take i p.ps).length := by rw [List.length_append, Rp.hd_length, hL]
    simp only [go_sem, ↓reduceIte, reduceCtorEq, Nat.reduceEqDiff, Nat.reduceLT, Nat.reduceLeDiff, Nat.reduceAdd, Nat.reduceMul, Nat.reduceSub, Nat.reduceBEq, Nat.reduceDiv, Int.reduceNeg, Int.reduceLT, Int.reduceLE, Int.reduceEq, Int.reduceToNat, Int.reduceAdd, Int.reduceSub, Int.reduceMul, Int.reduceBEq, Int.reduceBNe, reduceBEq, c23_l0, c23_r4, encP_length, d1]
    simp only [go_sem, ↓reduceIte, reduceCtorEq, Nat.reduceEqDiff, Nat.reduceLT, Nat.reduceLeDiff, Nat.reduceAdd, Nat.reduceMul, Nat.reduceSub, Nat.reduceBEq, Nat.reduceDiv, Int.reduceNeg, Int.reduceLT, Int.reduceLE, Int.reduceEq, Int.reduceToNat, Int.reduceAdd, Int.reduceSub, Int.reduceMul, Int.reduceBEq, Int.reduceBNe, reduceBEq, c23_r6, encP_length, Int.toNat_natCast, encP_get hd]
    refine ⟨by omega, (pieceBytes_spec p.ps[i] hpr _).mono fun y s' hy => ?_⟩
    obtain ⟨rfl, hs⟩ := hy
    have hs := hs.symm; subst hs
    simp only [go_sem, ↓reduceIte, reduceCtorEq, Nat.reduceEqDiff, Nat.reduceLT, Nat.reduceLeDiff, Nat.reduceAdd, Nat.reduceMul, Nat.reduceSub, Nat.reduceBEq, Nat.reduceDiv, Int.reduceNeg, Int.reduceLT, Int.reduceLE, Int.reduceEq, Int.reduceToNat, Int.reduceAdd, Int.reduceSub, Int.reduceMul, Int.reduceBEq, Int.reduceBNe, reduceBEq, maxLen, Nat.reducePow, encB_length, encB_append, e, el, c23_r5]
    refine ⟨⟨by omega, by omega⟩, i + 1, by omega, by omega, ?_⟩
    refine Weak.one (hwf.newObj (Rp.avs_lt p _)) (Nat.le_succ _) (by repeat (first | exact Agree.refl _ | refine Agree.newObj ?_ _ | refine Agree.newTok ?_ _ _ _ | refine Agree.killTok ?_ (by first | omega | (simp only [go_sem] <;> omega)) | refine Agree.setObj ?_ (by first | omega | (simp only [go_sem] <;> omega)) _ | refine Agree.dropObj ?_ (by first | omega | (simp only [go_sem] <;> omega)))) (σ.next + 1 + 1) (by simp only [go_sem, ↓reduceIte, reduceCtorEq, Nat.reduceEqDiff, Nat.reduceLT, Nat.reduceLeDiff, Nat.reduceAdd, Nat.reduceMul, Nat.reduceSub, Nat.reduceBEq, Nat.reduceDiv, Int.reduceNeg, Int.reduceLT, Int.reduceLE, Int.reduceEq, Int.reduceToNat, Int.reduceAdd, Int.reduceSub, Int.reduceMul, Int.reduceBEq, Int.reduceBNe, reduceBEq]) (by simp only [go_sem, ↓reduceIte, reduceCtorEq, Nat.reduceEqDiff, Nat.reduceLT, Nat.reduceLeDiff, Nat.reduceAdd, Nat.reduceMul, Nat.reduceSub, Nat.reduceBEq, Nat.reduceDiv, Int.reduceNeg, Int.reduceLT, Int.reduceLE, Int.reduceEq, Int.reduceToNat, Int.reduceAdd, Int.reduceSub, Int.reduceMul, Int.reduceBEq, Int.reduceBNe, reduceBEq]) ?_
    refine all_cons (.same (by simp only [go_sem, ↓reduceIte, reduceCtorEq, Nat.reduceEqDiff, Nat.reduceLT, Nat.reduceLeDiff, Nat.reduceAdd, Nat.reduceMul, Nat.reduceSub, Nat.reduceBEq, Nat.reduceDiv, Int.reduceNeg, Int.reduceLT, Int.reduceLE, Int.reduceEq, Int.reduceToNat, Int.reduceAdd, Int.reduceSub, Int.reduceMul, Int.reduceBEq, Int.reduceBNe, reduceBEq]; simp)) (all_cons (.row0 rfl) (all_cons (.int _ _ ?_) all_nil))
    rw [w64 (by omega) (by omega)]; simp
  have hd : i = p.ps.length := by omega
  subst hd
  have d1 : decide ((p.ps.length : Int) < p.ps.length) = false := decide_eq_false (by omega)
  rw [List.take_length] at hL
  have hml : p.mid.length = 7 + 40 * p.ps.length := by simp [Rp.mid, Rp.hd_length, hL, bigL_length]; omega
  have hmid : p.hd ++ layPs p.ps ++ [UInt8.ofNat p.is.length] = p.mid := by rw [Rp.mid, bigL_one]
  simp only [go_sem, ↓reduceIte, reduceCtorEq, Nat.reduceEqDiff, Nat.reduceLT, Nat.reduceLeDiff, Nat.reduceAdd, Nat.reduceMul, Nat.reduceSub, Nat.reduceBEq, Nat.reduceDiv, Int.reduceNeg, Int.reduceLT, Int.reduceLE, Int.reduceEq, Int.reduceToNat, Int.reduceAdd, Int.reduceSub, Int.reduceMul, Int.reduceBEq, Int.reduceBNe, reduceBEq, c23_l0, c23_r4, encP_length, d1]
  simp only [go_sem, ↓reduceIte, reduceCtorEq, Nat.reduceEqDiff, Nat.reduceLT, Nat.reduceLeDiff, Nat.reduceAdd, Nat.reduceMul, Nat.reduceSub, Nat.reduceBEq, Nat.reduceDiv, Int.reduceNeg, Int.reduceLT, Int.reduceLE, Int.reduceEq, Int.reduceToNat, Int.reduceAdd, Int.reduceSub, Int.reduceMul, Int.reduceBEq, Int.reduceBNe, reduceBEq, maxLen, Nat.reducePow, c23_r7, c23_r8, encI_length, u8_nat, encB_one, encB_append, encB_length, List.take_length, List.length_append, hmid, Rp.hd_length, hL]
  refine ⟨by omega, ?_⟩
  refine AWPc.loop (α := Nat) (fun i => [(1, .ptr σ.next 0), (3, .row (σ.next + 1) 1 (encB (p.mid ++ layIs (p.is.take i)))), (5, .int .i64 i)]) (fun i => (σ.newObj p.avs).newTok 5 1 (p.mid ++ layIs (p.is.take i)).length) (fun i => i ≤ p.is.length) (fun i => p.is.length - i)
    ⟨0, Nat.zero_le _, ?_⟩ ?_
  · refine Weak.one (hwf.newObj (Rp.avs_lt p _)) (Nat.le_succ _) (by repeat (first | exact Agree.refl _ | refine Agree.newObj ?_ _ | refine Agree.newTok ?_ _ _ _ | refine Agree.killTok ?_ (by first | omega | (simp only [go_sem] <;> omega)) | refine Agree.setObj ?_ (by first | omega | (simp only [go_sem] <;> omega)) _ | refine Agree.dropObj ?_ (by first | omega | (simp only [go_sem] <;> omega)))) (σ.next + 1 + 1) (by simp only [go_sem, ↓reduceIte, reduceCtorEq, Nat.reduceEqDiff, Nat.reduceLT, Nat.reduceLeDiff, Nat.reduceAdd, Nat.reduceMul, Nat.reduceSub, Nat.reduceBEq, Nat.reduceDiv, Int.reduceNeg, Int.reduceLT, Int.reduceLE, Int.reduceEq, Int.reduceToNat, Int.reduceAdd, Int.reduceSub, Int.reduceMul, Int.reduceBEq, Int.reduceBNe, reduceBEq]; simp [layIs, hml]; omega) (by simp only [go_sem, ↓reduceIte, reduceCtorEq, Nat.reduceEqDiff, Nat.reduceLT, Nat.reduceLeDiff, Nat.reduceAdd, Nat.reduceMul, Nat.reduceSub, Nat.reduceBEq, Nat.reduceDiv, Int.reduceNeg, Int.reduceLT, Int.reduceLE, Int.reduceEq, Int.reduceToNat, Int.reduceAdd, Int.reduceSub, Int.reduceMul, Int.reduceBEq, Int.reduceBNe, reduceBEq]) ?_
    exact all_cons (.same (by simp only [go_sem, ↓reduceIte, reduceCtorEq, Nat.reduceEqDiff, Nat.reduceLT, Nat.reduceLeDiff, Nat.reduceAdd, Nat.reduceMul, Nat.reduceSub, Nat.reduceBEq, Nat.reduceDiv, Int.reduceNeg, Int.reduceLT, Int.reduceLE, Int.reduceEq, Int.reduceToNat, Int.reduceAdd, Int.reduceSub, Int.reduceMul, Int.reduceBEq, Int.reduceBNe, reduceBEq]; simp)) (all_cons (.row0 (by simp [layIs])) (all_cons (.pv _ _ _) all_nil))
  intro i hi'
  have hL := layIs_length (right_take his i)
  by_cases hd : i < p.is.length
  · have d1 : decide ((i : Int) < p.is.length) = true := decide_eq_true (by omega)
    have hL' : (List.take i p.is).length ≤ 16 := by rw [List.length_take]; omega
    obtain ⟨q1, q2, q3, q4, q5⟩ := his _ (List.getElem_mem hd)
    have e : p.mid ++ layIs (p.is.take i) ++ bigL p.is[i].st.toNat 1 ++ bigL p.is[i].gn.toNat 6 ++ p.is[i].d = p.mid ++ layIs (p.is.take (i + 1)) := by rw [take_snoc' hd, layIs_snoc]; simp [It.lay]
    have hll : (p.mid ++ layIs (p.is.take i)).length = p.mid.length + 135 * (List.take i p.is).length := by rw [List.length_append, hL]
    have el : (p.mid ++ layIs (p.is.take i)).length + 1 + 6 + 128 = (p.mid ++ layIs (p.is.take (i + 1))).length := by rw [← e]; simp only [List.length_append, bigL_length, q5]
    simp only [go_sem, ↓reduceIte, reduceCtorEq, Nat.reduceEqDiff, Nat.reduceLT, Nat.reduceLeDiff, Nat.reduceAdd, Nat.reduceMul, Nat.reduceSub, Nat.reduceBEq, Nat.reduceDiv, Int.reduceNeg, Int.reduceLT, Int.reduceLE, Int.reduceEq, Int.reduceToNat, Int.reduceAdd, Int.reduceSub, Int.reduceMul, Int.reduceBEq, Int.reduceBNe, reduceBEq, c23_l1, c23_r9, encI_length, d1]
    simp only [go_sem, ↓reduceIte, reduceCtorEq, Nat.reduceEqDiff, Nat.reduceLT, Nat.reduceLeDiff, Nat.reduceAdd, Nat.reduceMul, Nat.reduceSub, Nat.reduceBEq, Nat.reduceDiv, Int.reduceNeg, Int.reduceLT, Int.reduceLE, Int.reduceEq, Int.reduceToNat, Int.reduceAdd, Int.reduceSub, Int.reduceMul, Int.reduceBEq, Int.reduceBNe, reduceBEq, c23_r11, encI_length, Int.toNat_natCast, encI_get hd]
    refine ⟨by omega, (bigI p.is[i].st q1 (by omega) 1 (by omega) _).mono fun y s' hy => ?_⟩
    obtain ⟨rfl, hs⟩ := hy
    have hs := hs.symm; subst hs
    simp only [go_sem, ↓reduceIte, reduceCtorEq, Nat.reduceEqDiff, Nat.reduceLT, Nat.reduceLeDiff, Nat.reduceAdd, Nat.reduceMul, Nat.reduceSub, Nat.reduceBEq, Nat.reduceDiv, Int.reduceNeg, Int.reduceLT, Int.reduceLE, Int.reduceEq, Int.reduceToNat, Int.reduceAdd, Int.reduceSub, Int.reduceMul, Int.reduceBEq, Int.reduceBNe, reduceBEq, maxLen, Nat.reducePow, encB_length, encB_append, bigL_length]
    refine ⟨by omega, ?_⟩
    simp only [go_sem, ↓reduceIte, reduceCtorEq, Nat.reduceEqDiff, Nat.reduceLT, Nat.reduceLeDiff, Nat.reduceAdd, Nat.reduceMul, Nat.reduceSub, Nat.reduceBEq, Nat.reduceDiv, Int.reduceNeg, Int.reduceLT, Int.reduceLE, Int.reduceEq, Int.reduceToNat, Int.reduceAdd, Int.reduceSub, Int.reduceMul, Int.reduceBEq, Int.reduceBNe, reduceBEq, c23_r12, encI_length, Int.toNat_natCast, encI_get hd]
    refine ⟨by omega, (bigI p.is[i].gn (by omega) (by omega) 6 (by omega) _).mono fun y s' hy => ?_⟩
    obtain ⟨rfl, hs⟩ := hy
    have hs := hs.symm; subst hs
    have la : (p.mid ++ layIs (p.is.take i) ++ bigL p.is[i].st.toNat 1).length = (p.mid ++ layIs (p.is.take i)).length + 1 := List.length_append.trans (congrArg (Nat.add _) (bigL_length _ _))
    have lb : (p.mid ++ layIs (p.is.take i) ++ bigL p.is[i].st.toNat 1 ++ bigL p.is[i].gn.toNat 6).length = (p.mid ++ layIs (p.is.take i)).length + 1 + 6 := List.length_append.trans ((congrArg (Nat.add _) (bigL_length _ _)).trans (congrArg (fun k => Nat.add k 6) la))
    simp only [go_sem, ↓reduceIte, reduceCtorEq, Nat.reduceEqDiff, Nat.reduceLT, Nat.reduceLeDiff, Nat.reduceAdd, Nat.reduceMul, Nat.reduceSub, Nat.reduceBEq, Nat.reduceDiv, Int.reduceNeg, Int.reduceLT, Int.reduceLE, Int.reduceEq, Int.reduceToNat, Int.reduceAdd, Int.reduceSub, Int.reduceMul, Int.reduceBEq, Int.reduceBNe, reduceBEq, maxLen, Nat.reducePow, encB_length, encB_append, bigL_length, la]
    refine ⟨by omega, ?_⟩
    simp only [go_sem, ↓reduceIte, reduceCtorEq, Nat.reduceEqDiff, Nat.reduceLT, Nat.reduceLeDiff, Nat.reduceAdd, Nat.reduceMul, Nat.reduceSub, Nat.reduceBEq, Nat.reduceDiv, Int.reduceNeg, Int.reduceLT, Int.reduceLE, Int.reduceEq, Int.reduceToNat, Int.reduceAdd, Int.reduceSub, Int.reduceMul, Int.reduceBEq, Int.reduceBNe, reduceBEq, maxLen, Nat.reducePow, c23_r13, encI_length, Int.toNat_natCast, encI_get hd, encB_length, encB_append, lb, e, q5, el, c23_r10]
    refine ⟨by omega, by omega, i + 1, by omega, by omega, ?_⟩
    refine Weak.one (hwf.newObj (Rp.avs_lt p _)) (Nat.le_succ _) (by repeat (first | exact Agree.refl _ | refine Agree.newObj ?_ _ | refine Agree.newTok ?_ _ _ _ | refine Agree.killTok ?_ (by first | omega | (simp only [go_sem] <;> omega)) | refine Agree.setObj ?_ (by first | omega | (simp only [go_sem] <;> omega)) _ | refine Agree.dropObj ?_ (by first | omega | (simp only [go_sem] <;> omega)))) (σ.next + 1 + 1 + 1 + 1) (by simp only [go_sem, ↓reduceIte, reduceCtorEq, Nat.reduceEqDiff, Nat.reduceLT, Nat.reduceLeDiff, Nat.reduceAdd, Nat.reduceMul, Nat.reduceSub, Nat.reduceBEq, Nat.reduceDiv, Int.reduceNeg, Int.reduceLT, Int.reduceLE, Int.reduceEq, Int.reduceToNat, Int.reduceAdd, Int.reduceSub, Int.reduceMul, Int.reduceBEq, Int.reduceBNe, reduceBEq]) (by simp only [go_sem, ↓reduceIte, reduceCtorEq, Nat.reduceEqDiff, Nat.reduceLT, Nat.reduceLeDiff, Nat.reduceAdd, Nat.reduceMul, Nat.reduceSub, Nat.reduceBEq, Nat.reduceDiv, Int.reduceNeg, Int.reduceLT, Int.reduceLE, Int.reduceEq, Int.reduceToNat, Int.reduceAdd, Int.reduceSub, Int.reduceMul, Int.reduceBEq, Int.reduceBNe, reduceBEq]) ?_
    refine all_cons (.same (by simp only [go_sem, ↓reduceIte, reduceCtorEq, Nat.reduceEqDiff, Nat.reduceLT, Nat.reduceLeDiff, Nat.reduceAdd, Nat.reduceMul, Nat.reduceSub, Nat.reduceBEq, Nat.reduceDiv, Int.reduceNeg, Int.reduceLT, Int.reduceLE, Int.reduceEq, Int.reduceToNat, Int.reduceAdd, Int.reduceSub, Int.reduceMul, Int.reduceBEq, Int.reduceBNe, reduceBEq]; simp)) (all_cons (.row0 rfl) (all_cons (.int _ _ ?_) all_nil))
    rw [w64 (by omega) (by omega)]; simp
  have hd : i = p.is.length := by omega
  subst hd
  have d1 : decide ((p.is.length : Int) < p.is.length) = false := decide_eq_false (by omega)
  simp only [go_sem, ↓reduceIte, reduceCtorEq, Nat.reduceEqDiff, Nat.reduceLT, Nat.reduceLeDiff, Nat.reduceAdd, Nat.reduceMul, Nat.reduceSub, Nat.reduceBEq, Nat.reduceDiv, Int.reduceNeg, Int.reduceLT, Int.reduceLE, Int.reduceEq, Int.reduceToNat, Int.reduceAdd, Int.reduceSub, Int.reduceMul, Int.reduceBEq, Int.reduceBNe, reduceBEq, c23_l1, c23_r9, d1, c23_r14, encI_length, List.take_length]
  exact ⟨_, _, _, rfl, WeakV.none hwf (by repeat (first | exact Agree.refl _ | refine Agree.newObj ?_ _ | refine Agree.newTok ?_ _ _ _ | refine Agree.killTok ?_ (by first | omega | (simp only [go_sem] <;> omega)) | refine Agree.setObj ?_ (by first | omega | (simp only [go_sem] <;> omega)) _ | refine Agree.dropObj ?_ (by first | omega | (simp only [go_sem] <;> omega)))) (.list' (es := 1) rfl rfl), rfl, rfl⟩

def pcRaw (l : List UInt8) : Pc := ⟨(l.getD 0 0).toNat, numB ((l.take 7).drop 1), (l.getD 7 0).toNat, l.drop 8⟩
theorem piece_spec (l : List UInt8) (h8 : 8 ≤ l.length) (hl : l.length < 1000) (σ : Store) : ACalls Try.prog 42 [AV.bytes l] σ (fun x s => x = .agg (pcRaw l).avs ∧ s = σ) := by
  refine ACalls.of_awpc Try.func42 c42_eq c42_n c42_rs (by simp) fun hwf => ?_
  have g0 : (encB l).getD 0 [] = [.val (.int .u8 ((l.getD 0 0).toNat : Int))] := by rw [encB_get (by omega)]; simp [List.getD_eq_getElem?_getD, show 0 < l.length by omega]
  have g7 : (encB l).getD 7 [] = [.val (.int .u8 ((l.getD 7 0).toNat : Int))] := by rw [encB_get (by omega)]; simp [List.getD_eq_getElem?_getD, show 7 < l.length by omega]
  have u0 := (l.getD 0 0).toNat_lt
  have u7 := (l.getD 7 0).toNat_lt
  have w0 : IntKind.i64.wrap ((l.getD 0 0).toNat : Int) = ((l.getD 0 0).toNat : Int) := i64n _ (by omega)
  have w7 : IntKind.i64.wrap ((l.getD 7 0).toNat : Int) = ((l.getD 7 0).toNat : Int) := i64n _ (by omega)
  unfold c42
  refine AWPc.step ?_
  simp only [go_sem, ↓reduceIte, reduceCtorEq, Nat.reduceEqDiff, Nat.reduceLT, Nat.reduceLeDiff, Nat.reduceAdd, Nat.reduceMul, Nat.reduceSub, Nat.reduceBEq, Nat.reduceDiv, Int.reduceNeg, Int.reduceLT, Int.reduceLE, Int.reduceEq, Int.reduceToNat, Int.reduceAdd, Int.reduceSub, Int.reduceMul, Int.reduceBEq, Int.reduceBNe, reduceBEq, c42_r0]
  refine AWPc.step ?_
  simp only [go_sem, ↓reduceIte, reduceCtorEq, Nat.reduceEqDiff, Nat.reduceLT, Nat.reduceLeDiff, Nat.reduceAdd, Nat.reduceMul, Nat.reduceSub, Nat.reduceBEq, Nat.reduceDiv, Int.reduceNeg, Int.reduceLT, Int.reduceLE, Int.reduceEq, Int.reduceToNat, Int.reduceAdd, Int.reduceSub, Int.reduceMul, Int.reduceBEq, Int.reduceBNe, reduceBEq]
  refine awpDreg mixed [16] (by kernel_rfl) (by kernel_rfl) fun ops1 => ?_
  simp only [go_sem, ↓reduceIte, reduceCtorEq, Nat.reduceEqDiff, Nat.reduceLT, Nat.reduceLeDiff, Nat.reduceAdd, Nat.reduceMul, Nat.reduceSub, Nat.reduceBEq, Nat.reduceDiv, Int.reduceNeg, Int.reduceLT, Int.reduceLE, Int.reduceEq, Int.reduceToNat, Int.reduceAdd, Int.reduceSub, Int.reduceMul, Int.reduceBEq, Int.reduceBNe, reduceBEq, maxLen, Nat.reducePow, c42_d1_ops, encB_length, encB_take, encB_drop, g0, g7, w0, w7]
  refine ⟨by omega, by omega, dregFn_fn call_35 (fun τ => from_spec ((l.take 7).drop 1) (by simp; omega) τ) (by simp only [go_sem, ↓reduceIte, reduceCtorEq, Nat.reduceEqDiff, Nat.reduceLT, Nat.reduceLeDiff, Nat.reduceAdd, Nat.reduceMul, Nat.reduceSub, Nat.reduceBEq, Nat.reduceDiv, Int.reduceNeg, Int.reduceLT, Int.reduceLE, Int.reduceEq, Int.reduceToNat, Int.reduceAdd, Int.reduceSub, Int.reduceMul, Int.reduceBEq, Int.reduceBNe, reduceBEq]) rfl rfl ?_⟩
  simp only [go_sem, ↓reduceIte, reduceCtorEq, Nat.reduceEqDiff, Nat.reduceLT, Nat.reduceLeDiff, Nat.reduceAdd, Nat.reduceMul, Nat.reduceSub, Nat.reduceBEq, Nat.reduceDiv, Int.reduceNeg, Int.reduceLT, Int.reduceLE, Int.reduceEq, Int.reduceToNat, Int.reduceAdd, Int.reduceSub, Int.reduceMul, Int.reduceBEq, Int.reduceBNe, reduceBEq, maxLen, Nat.reducePow, encB_length, encB_take, encB_drop, g0, g7, w0, w7]
  refine ⟨by omega, by omega, dregFn_app (x := AV.bytes (l.drop 8)) (fun τ => AOpc.appList (ys := encB (l.drop 8)) tSl_24 rfl ?_ ?_ ?_ ⟨rfl, rfl⟩) rfl rfl ?_⟩
  · simp only [go_sem, ↓reduceIte, reduceCtorEq, Nat.reduceEqDiff, Nat.reduceLT, Nat.reduceLeDiff, Nat.reduceAdd, Nat.reduceMul, Nat.reduceSub, Nat.reduceBEq, Nat.reduceDiv, Int.reduceNeg, Int.reduceLT, Int.reduceLE, Int.reduceEq, Int.reduceToNat, Int.reduceAdd, Int.reduceSub, Int.reduceMul, Int.reduceBEq, Int.reduceBNe, reduceBEq, encB_length, encB_take, encB_drop, List.take_length, Int.toNat_natCast]
  · rw [encB_length]; simp; omega
  · rw [encB_length]; simp [maxLen]; omega
  simp only [go_sem, ↓reduceIte, reduceCtorEq, Nat.reduceEqDiff, Nat.reduceLT, Nat.reduceLeDiff, Nat.reduceAdd, Nat.reduceMul, Nat.reduceSub, Nat.reduceBEq, Nat.reduceDiv, Int.reduceNeg, Int.reduceLT, Int.reduceLE, Int.reduceEq, Int.reduceToNat, Int.reduceAdd, Int.reduceSub, Int.reduceMul, Int.reduceBEq, Int.reduceBNe, reduceBEq, maxLen, Nat.reducePow, encB_length, encB_take, encB_drop, g0, g7, w0, w7]
  refine AWPc.of_arun ?_
  simp only [go_sem, ↓reduceIte, reduceCtorEq, Nat.reduceEqDiff, Nat.reduceLT, Nat.reduceLeDiff, Nat.reduceAdd, Nat.reduceMul, Nat.reduceSub, Nat.reduceBEq, Nat.reduceDiv, Int.reduceNeg, Int.reduceLT, Int.reduceLE, Int.reduceEq, Int.reduceToNat, Int.reduceAdd, Int.reduceSub, Int.reduceMul, Int.reduceBEq, Int.reduceBNe, reduceBEq]
  exact ⟨_, .agg (pcRaw l).avs, _, rfl, WeakV.none hwf (by repeat (first | exact Agree.refl _ | refine Agree.newObj ?_ _ | refine Agree.newTok ?_ _ _ _ | refine Agree.killTok ?_ (by first | omega | (simp only [go_sem] <;> omega)) | refine Agree.setObj ?_ (by first | omega | (simp only [go_sem] <;> omega)) _ | refine Agree.dropObj ?_ (by first | omega | (simp only [go_sem] <;> omega)))) (LeR.of_le (.refl _) (by simp)), rfl, rfl⟩
end Go.Proofs.Ytnanpamfdjnomaa
