/- call: Few, Req. -/
import Derived.Test.YtnanpamfdjnomaaCallE
namespace Go.Proofs.Ytnanpamfdjnomaa
open Go Go.RowKit Go.Proofs.Ytnanpamfdjnomaa.AL
set_option maxRecDepth 100000
set_option linter.unusedSimpArgs false

theorem few_list (l : List UInt8) (hl : l.length < 2 ^ 47) (σ : Store) : ACalls Try.prog 11 [AV.bytes l, .int .i64 l.length] σ (fun x s => x = AV.bytes l ∧ s = σ) := by
  refine ACalls.of_arun Try.func11 c11_eq c11_n c11_rs (by simp) fun hwf => ?_
  simp only [go_sem, ↓reduceIte, reduceCtorEq, Nat.reduceEqDiff, Nat.reduceLT, Nat.reduceLeDiff, Nat.reduceAdd, Nat.reduceMul, Nat.reduceSub, Nat.reduceBEq, Nat.reduceDiv, Int.reduceNeg, Int.reduceLT, Int.reduceLE, Int.reduceEq, Int.reduceToNat, Int.reduceAdd, Int.reduceSub, Int.reduceMul, Int.reduceBEq, Int.reduceBNe, reduceBEq, maxLen, Nat.reducePow, c11, c11_r0]
  simp only [go_sem, ↓reduceIte, reduceCtorEq, Nat.reduceEqDiff, Nat.reduceLT, Nat.reduceLeDiff, Nat.reduceAdd, Nat.reduceMul, Nat.reduceSub, Nat.reduceBEq, Nat.reduceDiv, Int.reduceNeg, Int.reduceLT, Int.reduceLE, Int.reduceEq, Int.reduceToNat, Int.reduceAdd, Int.reduceSub, Int.reduceMul, Int.reduceBEq, Int.reduceBNe, reduceBEq, maxLen, Nat.reducePow, c11_r1, encB_length, Int.lt_irrefl, Int.toNat_natCast, encB_take, List.take_length]
  refine ⟨by omega, by omega, _, _, _, rfl, WeakV.none hwf (by repeat (first | exact Agree.refl _ | refine Agree.newObj ?_ _ | refine Agree.newTok ?_ _ _ _ | refine Agree.killTok ?_ (by omega) | refine Agree.setObj ?_ (by omega) _ | refine Agree.dropObj ?_ (by omega))) (.list' (es := 1) rfl rfl), rfl, rfl⟩

/-- Few, in memory that may be written. -/
theorem few_obj (l : List UInt8) (h0 : 0 < l.length) (hl : l.length < 2 ^ 47) (σ : Store) :
    ACalls Try.prog 11 [AV.bytes l, .int .i64 l.length] σ (fun x s => ∃ z : List UInt8, l.length + z.length ≤ maxLen ∧ x = .sl σ.next 0 l.length (l.length + z.length) ∧ s = σ.newObj (objB (l ++ z))) := by
  refine ACalls.of_awpc Try.func11 c11_eq c11_n c11_rs (by simp) fun hwf => ?_
  unfold c11
  refine AWPc.step ?_
  simp only [go_sem, ↓reduceIte, reduceCtorEq, Nat.reduceEqDiff, Nat.reduceLT, Nat.reduceLeDiff, Nat.reduceAdd, Nat.reduceMul, Nat.reduceSub, Nat.reduceBEq, Nat.reduceDiv, Int.reduceNeg, Int.reduceLT, Int.reduceLE, Int.reduceEq, Int.reduceToNat, Int.reduceAdd, Int.reduceSub, Int.reduceMul, Int.reduceBEq, Int.reduceBNe, reduceBEq, c11_r0]
  refine AWPc.seq (AWPc.reg fun ops os hl => ?_)
  refine vops_one hl rfl (AOpc.of_aop ?_)
  simp only [go_sem, ↓reduceIte, reduceCtorEq, Nat.reduceEqDiff, Nat.reduceLT, Nat.reduceLeDiff, Nat.reduceAdd, Nat.reduceMul, Nat.reduceSub, Nat.reduceBEq, Nat.reduceDiv, Int.reduceNeg, Int.reduceLT, Int.reduceLE, Int.reduceEq, Int.reduceToNat, Int.reduceAdd, Int.reduceSub, Int.reduceMul, Int.reduceBEq, Int.reduceBNe, reduceBEq]
  refine fun os hl => vops_one hl rfl (AOpc.of_aop ?_)
  simp only [go_sem, ↓reduceIte, reduceCtorEq, Nat.reduceEqDiff, Nat.reduceLT, Nat.reduceLeDiff, Nat.reduceAdd, Nat.reduceMul, Nat.reduceSub, Nat.reduceBEq, Nat.reduceDiv, Int.reduceNeg, Int.reduceLT, Int.reduceLE, Int.reduceEq, Int.reduceToNat, Int.reduceAdd, Int.reduceSub, Int.reduceMul, Int.reduceBEq, Int.reduceBNe, reduceBEq]
  refine fun os hl => vops_one hl rfl (AOpc.of_aop ?_)
  simp only [go_sem, ↓reduceIte, reduceCtorEq, Nat.reduceEqDiff, Nat.reduceLT, Nat.reduceLeDiff, Nat.reduceAdd, Nat.reduceMul, Nat.reduceSub, Nat.reduceBEq, Nat.reduceDiv, Int.reduceNeg, Int.reduceLT, Int.reduceLE, Int.reduceEq, Int.reduceToNat, Int.reduceAdd, Int.reduceSub, Int.reduceMul, Int.reduceBEq, Int.reduceBNe, reduceBEq]
  refine fun os hl => vops_one hl rfl (AOpc.of_aop ?_)
  simp only [go_sem, ↓reduceIte, reduceCtorEq, Nat.reduceEqDiff, Nat.reduceLT, Nat.reduceLeDiff, Nat.reduceAdd, Nat.reduceMul, Nat.reduceSub, Nat.reduceBEq, Nat.reduceDiv, Int.reduceNeg, Int.reduceLT, Int.reduceLE, Int.reduceEq, Int.reduceToNat, Int.reduceAdd, Int.reduceSub, Int.reduceMul, Int.reduceBEq, Int.reduceBNe, reduceBEq]
  refine fun os hl => vops_one hl rfl (AOpc.of_aop ?_)
  simp only [go_sem, ↓reduceIte, reduceCtorEq, Nat.reduceEqDiff, Nat.reduceLT, Nat.reduceLeDiff, Nat.reduceAdd, Nat.reduceMul, Nat.reduceSub, Nat.reduceBEq, Nat.reduceDiv, Int.reduceNeg, Int.reduceLT, Int.reduceLE, Int.reduceEq, Int.reduceToNat, Int.reduceAdd, Int.reduceSub, Int.reduceMul, Int.reduceBEq, Int.reduceBNe, reduceBEq]
  refine fun os hl => vops_one hl rfl (AOpc.of_aop ?_)
  simp only [go_sem, ↓reduceIte, reduceCtorEq, Nat.reduceEqDiff, Nat.reduceLT, Nat.reduceLeDiff, Nat.reduceAdd, Nat.reduceMul, Nat.reduceSub, Nat.reduceBEq, Nat.reduceDiv, Int.reduceNeg, Int.reduceLT, Int.reduceLE, Int.reduceEq, Int.reduceToNat, Int.reduceAdd, Int.reduceSub, Int.reduceMul, Int.reduceBEq, Int.reduceBNe, reduceBEq, encB_length, Int.lt_irrefl]
  refine fun os hl => vops_one hl rfl (AOpc.of_aop ?_)
  simp only [go_sem, ↓reduceIte, reduceCtorEq, Nat.reduceEqDiff, Nat.reduceLT, Nat.reduceLeDiff, Nat.reduceAdd, Nat.reduceMul, Nat.reduceSub, Nat.reduceBEq, Nat.reduceDiv, Int.reduceNeg, Int.reduceLT, Int.reduceLE, Int.reduceEq, Int.reduceToNat, Int.reduceAdd, Int.reduceSub, Int.reduceMul, Int.reduceBEq, Int.reduceBNe, reduceBEq, encB_length, Int.toNat_natCast, encB_take, List.take_length]
  refine ⟨by omega, fun os hl => vops_one hl rfl (AOpc.appObj (ps := psB l) tSl_24 tZero_5 rfl (by simp only [go_sem, ↓reduceIte, reduceCtorEq, Nat.reduceEqDiff, Nat.reduceLT, Nat.reduceLeDiff, Nat.reduceAdd, Nat.reduceMul, Nat.reduceSub, Nat.reduceBEq, Nat.reduceDiv, Int.reduceNeg, Int.reduceLT, Int.reduceLE, Int.reduceEq, Int.reduceToNat, Int.reduceAdd, Int.reduceSub, Int.reduceMul, Int.reduceBEq, Int.reduceBNe, reduceBEq, psB_encB]) (by simp only [psB, List.length_map]; omega) (by simp only [psB, List.length_map]; omega) (by simp only [psB, List.length_map, maxLen]; omega) fun cap hc1 hc2 os hl => vops_of hl ?_)⟩
  simp only [go_sem, ↓reduceIte, reduceCtorEq, Nat.reduceEqDiff, Nat.reduceLT, Nat.reduceLeDiff, Nat.reduceAdd, Nat.reduceMul, Nat.reduceSub, Nat.reduceBEq, Nat.reduceDiv, Int.reduceNeg, Int.reduceLT, Int.reduceLE, Int.reduceEq, Int.reduceToNat, Int.reduceAdd, Int.reduceSub, Int.reduceMul, Int.reduceBEq, Int.reduceBNe, reduceBEq]
  refine AWPc.of_arun ?_
  have hpl : (psB l).length = l.length := by simp [psB]
  rw [hpl] at hc1 ⊢
  have hobj : (psB l).map AV.pv ++ List.replicate (cap - l.length) (AV.pv (.val (.int .u8 0))) = objB (l ++ List.replicate (cap - l.length) 0) := by
    rw [objB_replicate, ← objB_app]; simp [objB, psB]
  rw [hobj]
  simp only [go_sem, ↓reduceIte, reduceCtorEq, Nat.reduceEqDiff, Nat.reduceLT, Nat.reduceLeDiff, Nat.reduceAdd, Nat.reduceMul, Nat.reduceSub, Nat.reduceBEq, Nat.reduceDiv, Int.reduceNeg, Int.reduceLT, Int.reduceLE, Int.reduceEq, Int.reduceToNat, Int.reduceAdd, Int.reduceSub, Int.reduceMul, Int.reduceBEq, Int.reduceBNe, reduceBEq]
  have hcl : l.length + (List.replicate (cap - l.length) (0 : UInt8)).length = cap := by simp; omega
  exact ⟨_, _, _, rfl, WeakV.refl _ _ _, List.replicate (cap - l.length) 0, by omega, by rw [hcl], rfl⟩

/-! ### Req -/
abbrev AV.raw (a : List Int) : AV := .agg (a.map (.int .i64))
structure RawQ where
  kind : Int
  stripe : Int
  gen : Int
  index : Int
  seed : Int
  bend : Int
abbrev RawQ.cells (r : RawQ) : List AV := [.int .i64 r.kind, .int .i64 r.stripe, .int .i64 r.gen, .int .i64 r.index, .int .i64 r.seed, .int .i64 r.bend]
structure RawQ.ok (r : RawQ) : Prop where
  kind : i64b r.kind
  stripe : i64b r.stripe
  gen : i64b r.gen
  index : i64b r.index
  seed : i64b r.seed
  bend : i64b r.bend
/-- A request as Req leaves it. -/
def Q.fine (q : Q) : Prop := i64b q.kd ∧ i64b q.st ∧ i64b q.gn ∧ i64b q.ix ∧ q.d.length ≤ 200
abbrev Q.cells (q : Q) : List AV := [.int .i64 q.kd, .int .i64 q.st, .int .i64 q.gn, .int .i64 q.ix, AV.bytes q.d]
abbrev reqE (k : Nat) : Env := [(1, .ptr k 0), (2, .ptr (k + 1) 0), (3, .ptr (k + 1 + 1) 0)]
abbrev zcells : List AV := [.int .i64 0, .int .i64 0, .int .i64 0, .int .i64 0, .nil]
abbrev reqS (σ : Store) (r : RawQ) (q : Q) : Store := ((σ.newObj r.cells).newObj zcells).newObj q.cells
abbrev reqPost (σ : Store) (r : RawQ) (R : Exit → Env → Store → Prop) : Exit → Env → Store → Prop :=
  thenA (fun env' σ' => ∃ q : Q, q.fine ∧ Weak 81 σ.next env' σ' (reqE σ.next) (reqS σ r q)) R

theorem le5 {a b c d e a' b' c' d' e' : AV} (h1 : Le a a') (h2 : Le b b') (h3 : Le c c') (h4 : Le d d') (h5 : Le e e') : ∀ (i : Nat) (x y : AV), [a, b, c, d, e][i]? = some x → [a', b', c', d', e'][i]? = some y → Le x y := fun i x y hx hy => by
  match i, hx, hy with
  | 0, hx, hy => simp at hx hy; subst hx; subst hy; exact h1
  | 1, hx, hy => simp at hx hy; subst hx; subst hy; exact h2
  | 2, hx, hy => simp at hx hy; subst hx; subst hy; exact h3
  | 3, hx, hy => simp at hx hy; subst hx; subst hy; exact h4
  | 4, hx, hy => simp at hx hy; subst hx; subst hy; exact h5
  | n + 5, hx, hy => simp at hx

theorem req_a (r : RawQ) (σ : Store) (q : Q) (hq : q.fine) (R : Exit → Env → Store → Prop) :
    AWPc Try.prog 81 σ.next (.seq (.reg c7_r2) (.block 0 (.seq (.reg c7_r3) (.cond (.tmp 21) (.reg c7_r4) (.seq (.reg c7_r5) (.cond (.tmp 27) (.seq (.reg c7_r6) (.reg c7_r7)) .skip)))))) (reqE σ.next) (reqS σ r q) (reqPost σ r R) := by
  obtain ⟨h1, h2, h3, h4, h5⟩ := hq
  refine AWPc.of_arun ?_
  simp only [go_sem, ↓reduceIte, reduceCtorEq, Nat.reduceEqDiff, Nat.reduceLT, Nat.reduceLeDiff, Nat.reduceAdd, Nat.reduceMul, Nat.reduceSub, Nat.reduceBEq, Nat.reduceDiv, Int.reduceNeg, Int.reduceLT, Int.reduceLE, Int.reduceEq, Int.reduceToNat, Int.reduceAdd, Int.reduceSub, Int.reduceMul, Int.reduceBEq, Int.reduceBNe, reduceBEq, c7_r2]
  by_cases k2 : q.kd = 2
  · have d1 : (q.kd == 2) = true := by simp [k2]
    simp only [go_sem, ↓reduceIte, reduceCtorEq, Nat.reduceEqDiff, Nat.reduceLT, Nat.reduceLeDiff, Nat.reduceAdd, Nat.reduceMul, Nat.reduceSub, Nat.reduceBEq, Nat.reduceDiv, Int.reduceNeg, Int.reduceLT, Int.reduceLE, Int.reduceEq, Int.reduceToNat, Int.reduceAdd, Int.reduceSub, Int.reduceMul, Int.reduceBEq, Int.reduceBNe, reduceBEq, c7_r3, c7_r4, d1]
    refine (bytesHand_spec r.seed 32 (by omega) _).mono fun y s' hy => ?_
    obtain ⟨rfl, hs⟩ := hy
    have hd := hbytes_length r.seed 32
    have hd2 := hbytes_length r.seed 128
    have hs := hs.symm; subst hs
    simp only [go_sem, ↓reduceIte, reduceCtorEq, Nat.reduceEqDiff, Nat.reduceLT, Nat.reduceLeDiff, Nat.reduceAdd, Nat.reduceMul, Nat.reduceSub, Nat.reduceBEq, Nat.reduceDiv, Int.reduceNeg, Int.reduceLT, Int.reduceLE, Int.reduceEq, Int.reduceToNat, Int.reduceAdd, Int.reduceSub, Int.reduceMul, Int.reduceBEq, Int.reduceBNe, reduceBEq]
    exact ⟨⟨q.kd, q.st, q.gn, q.ix, hbytes r.seed 32⟩, ⟨h1, h2, h3, h4, by dsimp only; omega⟩, .slots (all_cons rfl (all_cons rfl (all_cons rfl all_nil)))⟩
  have d1 : (q.kd == 2) = false := by simp [k2]
  by_cases k3 : q.kd = 3
  · have d2 : (q.kd == 3) = true := by simp [k3]
    simp only [go_sem, ↓reduceIte, reduceCtorEq, Nat.reduceEqDiff, Nat.reduceLT, Nat.reduceLeDiff, Nat.reduceAdd, Nat.reduceMul, Nat.reduceSub, Nat.reduceBEq, Nat.reduceDiv, Int.reduceNeg, Int.reduceLT, Int.reduceLE, Int.reduceEq, Int.reduceToNat, Int.reduceAdd, Int.reduceSub, Int.reduceMul, Int.reduceBEq, Int.reduceBNe, reduceBEq, c7_r3, c7_r5, c7_r6, d1, d2]
    refine (bytesHand_spec r.seed 128 (by omega) _).mono fun y s' hy => ?_
    obtain ⟨rfl, hs⟩ := hy
    have hd := hbytes_length r.seed 32
    have hd2 := hbytes_length r.seed 128
    have hs := hs.symm; subst hs
    simp only [go_sem, ↓reduceIte, reduceCtorEq, Nat.reduceEqDiff, Nat.reduceLT, Nat.reduceLeDiff, Nat.reduceAdd, Nat.reduceMul, Nat.reduceSub, Nat.reduceBEq, Nat.reduceDiv, Int.reduceNeg, Int.reduceLT, Int.reduceLE, Int.reduceEq, Int.reduceToNat, Int.reduceAdd, Int.reduceSub, Int.reduceMul, Int.reduceBEq, Int.reduceBNe, reduceBEq, c7_r7]
    refine (pick_spec r.gen 30 (by omega) _).mono fun y s' hy => ?_
    obtain ⟨rfl, hs⟩ := hy
    have hs := hs.symm; subst hs
    simp only [go_sem, ↓reduceIte, reduceCtorEq, Nat.reduceEqDiff, Nat.reduceLT, Nat.reduceLeDiff, Nat.reduceAdd, Nat.reduceMul, Nat.reduceSub, Nat.reduceBEq, Nat.reduceDiv, Int.reduceNeg, Int.reduceLT, Int.reduceLE, Int.reduceEq, Int.reduceToNat, Int.reduceAdd, Int.reduceSub, Int.reduceMul, Int.reduceBEq, Int.reduceBNe, reduceBEq]
    exact ⟨⟨q.kd, q.st, IntKind.i64.wrap (1 + pick r.gen 30), q.ix, hbytes r.seed 128⟩, ⟨h1, h2, wrap_b _, h4, by dsimp only; omega⟩, .slots (all_cons rfl (all_cons rfl (all_cons rfl all_nil)))⟩
  have d2 : (q.kd == 3) = false := by simp [k3]
  simp only [go_sem, ↓reduceIte, reduceCtorEq, Nat.reduceEqDiff, Nat.reduceLT, Nat.reduceLeDiff, Nat.reduceAdd, Nat.reduceMul, Nat.reduceSub, Nat.reduceBEq, Nat.reduceDiv, Int.reduceNeg, Int.reduceLT, Int.reduceLE, Int.reduceEq, Int.reduceToNat, Int.reduceAdd, Int.reduceSub, Int.reduceMul, Int.reduceBEq, Int.reduceBNe, reduceBEq, c7_r3, c7_r5, d1, d2]
  exact ⟨q, ⟨h1, h2, h3, h4, h5⟩, .slots (all_cons rfl (all_cons rfl (all_cons rfl all_nil)))⟩

theorem pick_b (x n : Int) (h0 : 0 < n) (h : n ≤ 9223372036854775807) : i64b (pick x n) := by
  have := pick_lt x n h0 h
  unfold i64b; omega

theorem req_b (r : RawQ) (hr : r.ok) (σ : Store) (q : Q) (hq : q.fine) (R : Exit → Env → Store → Prop) :
    AWPc Try.prog 81 σ.next (.seq (.reg c7_r8) (.block 1 (.seq (.reg c7_r9) (.cond (.tmp 41) (.reg c7_r10) (.seq (.reg c7_r11) (.cond (.tmp 49) (.reg c7_r12) (.seq (.reg c7_r13) (.cond (.tmp 54) (.reg c7_r14) (.seq (.reg c7_r15) (.cond (.tmp 59) (.reg c7_r16) (.seq (.reg c7_r17) (.cond (.tmp 64) (.raw c7_d18) (.seq (.reg c7_r19) (.cond (.tmp 74) (.reg c7_r20) .skip))))))))))))))
      (reqE σ.next) (reqS σ r q) (reqPost σ r R) := by
  obtain ⟨h1, h2, h3, h4, h5⟩ := hq
  refine AWPc.of_arun ?_
  simp only [go_sem, ↓reduceIte, reduceCtorEq, Nat.reduceEqDiff, Nat.reduceLT, Nat.reduceLeDiff, Nat.reduceAdd, Nat.reduceMul, Nat.reduceSub, Nat.reduceBEq, Nat.reduceDiv, Int.reduceNeg, Int.reduceLT, Int.reduceLE, Int.reduceEq, Int.reduceToNat, Int.reduceAdd, Int.reduceSub, Int.reduceMul, Int.reduceBEq, Int.reduceBNe, reduceBEq, c7_r8]
  refine (pick_spec r.bend 30 (by omega) _).mono fun y s' hy => ?_
  obtain ⟨rfl, hs⟩ := hy
  have hs := hs.symm; subst hs
  simp only [go_sem, ↓reduceIte, reduceCtorEq, Nat.reduceEqDiff, Nat.reduceLT, Nat.reduceLeDiff, Nat.reduceAdd, Nat.reduceMul, Nat.reduceSub, Nat.reduceBEq, Nat.reduceDiv, Int.reduceNeg, Int.reduceLT, Int.reduceLE, Int.reduceEq, Int.reduceToNat, Int.reduceAdd, Int.reduceSub, Int.reduceMul, Int.reduceBEq, Int.reduceBNe, reduceBEq, c7_r9]
  split
  · simp only [go_sem, ↓reduceIte, reduceCtorEq, Nat.reduceEqDiff, Nat.reduceLT, Nat.reduceLeDiff, Nat.reduceAdd, Nat.reduceMul, Nat.reduceSub, Nat.reduceBEq, Nat.reduceDiv, Int.reduceNeg, Int.reduceLT, Int.reduceLE, Int.reduceEq, Int.reduceToNat, Int.reduceAdd, Int.reduceSub, Int.reduceMul, Int.reduceBEq, Int.reduceBNe, reduceBEq, c7_r10]
    refine (pick_spec _ 9 (by omega) _).mono fun y s' hy => ?_
    obtain ⟨rfl, hs⟩ := hy
    have hs := hs.symm; subst hs
    simp only [go_sem, ↓reduceIte, reduceCtorEq, Nat.reduceEqDiff, Nat.reduceLT, Nat.reduceLeDiff, Nat.reduceAdd, Nat.reduceMul, Nat.reduceSub, Nat.reduceBEq, Nat.reduceDiv, Int.reduceNeg, Int.reduceLT, Int.reduceLE, Int.reduceEq, Int.reduceToNat, Int.reduceAdd, Int.reduceSub, Int.reduceMul, Int.reduceBEq, Int.reduceBNe, reduceBEq]
    exact ⟨⟨IntKind.i64.wrap (pick (IntKind.i64.wrap (r.bend.tdiv 30)) 9 - 1), q.st, q.gn, q.ix, q.d⟩, ⟨wrap_b _, h2, h3, h4, h5⟩, .slots (all_cons rfl (all_cons rfl (all_cons rfl all_nil)))⟩
  simp only [go_sem, ↓reduceIte, reduceCtorEq, Nat.reduceEqDiff, Nat.reduceLT, Nat.reduceLeDiff, Nat.reduceAdd, Nat.reduceMul, Nat.reduceSub, Nat.reduceBEq, Nat.reduceDiv, Int.reduceNeg, Int.reduceLT, Int.reduceLE, Int.reduceEq, Int.reduceToNat, Int.reduceAdd, Int.reduceSub, Int.reduceMul, Int.reduceBEq, Int.reduceBNe, reduceBEq, c7_r11]
  split
  · simp only [go_sem, ↓reduceIte, reduceCtorEq, Nat.reduceEqDiff, Nat.reduceLT, Nat.reduceLeDiff, Nat.reduceAdd, Nat.reduceMul, Nat.reduceSub, Nat.reduceBEq, Nat.reduceDiv, Int.reduceNeg, Int.reduceLT, Int.reduceLE, Int.reduceEq, Int.reduceToNat, Int.reduceAdd, Int.reduceSub, Int.reduceMul, Int.reduceBEq, Int.reduceBNe, reduceBEq, c7_r12]
    exact ⟨⟨q.kd, r.stripe, q.gn, q.ix, q.d⟩, ⟨h1, hr.stripe, h3, h4, h5⟩, .slots (all_cons rfl (all_cons rfl (all_cons rfl all_nil)))⟩
  simp only [go_sem, ↓reduceIte, reduceCtorEq, Nat.reduceEqDiff, Nat.reduceLT, Nat.reduceLeDiff, Nat.reduceAdd, Nat.reduceMul, Nat.reduceSub, Nat.reduceBEq, Nat.reduceDiv, Int.reduceNeg, Int.reduceLT, Int.reduceLE, Int.reduceEq, Int.reduceToNat, Int.reduceAdd, Int.reduceSub, Int.reduceMul, Int.reduceBEq, Int.reduceBNe, reduceBEq, c7_r13]
  split
  · simp only [go_sem, ↓reduceIte, reduceCtorEq, Nat.reduceEqDiff, Nat.reduceLT, Nat.reduceLeDiff, Nat.reduceAdd, Nat.reduceMul, Nat.reduceSub, Nat.reduceBEq, Nat.reduceDiv, Int.reduceNeg, Int.reduceLT, Int.reduceLE, Int.reduceEq, Int.reduceToNat, Int.reduceAdd, Int.reduceSub, Int.reduceMul, Int.reduceBEq, Int.reduceBNe, reduceBEq, c7_r14]
    exact ⟨⟨q.kd, q.st, r.gen, q.ix, q.d⟩, ⟨h1, h2, hr.gen, h4, h5⟩, .slots (all_cons rfl (all_cons rfl (all_cons rfl all_nil)))⟩
  simp only [go_sem, ↓reduceIte, reduceCtorEq, Nat.reduceEqDiff, Nat.reduceLT, Nat.reduceLeDiff, Nat.reduceAdd, Nat.reduceMul, Nat.reduceSub, Nat.reduceBEq, Nat.reduceDiv, Int.reduceNeg, Int.reduceLT, Int.reduceLE, Int.reduceEq, Int.reduceToNat, Int.reduceAdd, Int.reduceSub, Int.reduceMul, Int.reduceBEq, Int.reduceBNe, reduceBEq, c7_r15]
  split
  · simp only [go_sem, ↓reduceIte, reduceCtorEq, Nat.reduceEqDiff, Nat.reduceLT, Nat.reduceLeDiff, Nat.reduceAdd, Nat.reduceMul, Nat.reduceSub, Nat.reduceBEq, Nat.reduceDiv, Int.reduceNeg, Int.reduceLT, Int.reduceLE, Int.reduceEq, Int.reduceToNat, Int.reduceAdd, Int.reduceSub, Int.reduceMul, Int.reduceBEq, Int.reduceBNe, reduceBEq, c7_r16]
    exact ⟨⟨q.kd, q.st, q.gn, r.index, q.d⟩, ⟨h1, h2, h3, hr.index, h5⟩, .slots (all_cons rfl (all_cons rfl (all_cons rfl all_nil)))⟩
  simp only [go_sem, ↓reduceIte, reduceCtorEq, Nat.reduceEqDiff, Nat.reduceLT, Nat.reduceLeDiff, Nat.reduceAdd, Nat.reduceMul, Nat.reduceSub, Nat.reduceBEq, Nat.reduceDiv, Int.reduceNeg, Int.reduceLT, Int.reduceLE, Int.reduceEq, Int.reduceToNat, Int.reduceAdd, Int.reduceSub, Int.reduceMul, Int.reduceBEq, Int.reduceBNe, reduceBEq, c7_r17]
  split
  · obtain ⟨m, em, hm⟩ := pick_nat (IntKind.i64.wrap (r.bend.tdiv 30)) 140 (by omega) (by omega)
    rw [show ((140 : Nat) : Int) = 140 from rfl] at em
    refine awpDreg mixed [8] (by kernel_rfl) (by kernel_rfl) fun ops1 => ?_
    simp only [go_sem, ↓reduceIte, reduceCtorEq, Nat.reduceEqDiff, Nat.reduceLT, Nat.reduceLeDiff, Nat.reduceAdd, Nat.reduceMul, Nat.reduceSub, Nat.reduceBEq, Nat.reduceDiv, Int.reduceNeg, Int.reduceLT, Int.reduceLE, Int.reduceEq, Int.reduceToNat, Int.reduceAdd, Int.reduceSub, Int.reduceMul, Int.reduceBEq, Int.reduceBNe, reduceBEq, c7_d18_ops]
    refine dregFn_fn call_12 (fun τ => pick_spec (IntKind.i64.wrap (r.bend.tdiv 30)) 140 (by omega) τ) (by simp only [go_sem, ↓reduceIte, reduceCtorEq, Nat.reduceEqDiff, Nat.reduceLT, Nat.reduceLeDiff, Nat.reduceAdd, Nat.reduceMul, Nat.reduceSub, Nat.reduceBEq, Nat.reduceDiv, Int.reduceNeg, Int.reduceLT, Int.reduceLE, Int.reduceEq, Int.reduceToNat, Int.reduceAdd, Int.reduceSub, Int.reduceMul, Int.reduceBEq, Int.reduceBNe, reduceBEq]) rfl rfl ?_
    simp only [go_sem, ↓reduceIte, reduceCtorEq, Nat.reduceEqDiff, Nat.reduceLT, Nat.reduceLeDiff, Nat.reduceAdd, Nat.reduceMul, Nat.reduceSub, Nat.reduceBEq, Nat.reduceDiv, Int.reduceNeg, Int.reduceLT, Int.reduceLE, Int.reduceEq, Int.reduceToNat, Int.reduceAdd, Int.reduceSub, Int.reduceMul, Int.reduceBEq, Int.reduceBNe, reduceBEq, em]
    refine dregFn_fn call_26 (fun τ => bytesHand_spec r.seed m (by omega) τ) (by simp only [go_sem, ↓reduceIte, reduceCtorEq, Nat.reduceEqDiff, Nat.reduceLT, Nat.reduceLeDiff, Nat.reduceAdd, Nat.reduceMul, Nat.reduceSub, Nat.reduceBEq, Nat.reduceDiv, Int.reduceNeg, Int.reduceLT, Int.reduceLE, Int.reduceEq, Int.reduceToNat, Int.reduceAdd, Int.reduceSub, Int.reduceMul, Int.reduceBEq, Int.reduceBNe, reduceBEq]) rfl rfl ?_
    simp only [go_sem, ↓reduceIte, reduceCtorEq, Nat.reduceEqDiff, Nat.reduceLT, Nat.reduceLeDiff, Nat.reduceAdd, Nat.reduceMul, Nat.reduceSub, Nat.reduceBEq, Nat.reduceDiv, Int.reduceNeg, Int.reduceLT, Int.reduceLE, Int.reduceEq, Int.reduceToNat, Int.reduceAdd, Int.reduceSub, Int.reduceMul, Int.reduceBEq, Int.reduceBNe, reduceBEq]
    have hd := hbytes_length r.seed m
    exact ⟨⟨q.kd, q.st, q.gn, q.ix, hbytes r.seed m⟩, ⟨h1, h2, h3, h4, by dsimp only; omega⟩, .slots (all_cons rfl (all_cons rfl (all_cons rfl all_nil)))⟩
  simp only [go_sem, ↓reduceIte, reduceCtorEq, Nat.reduceEqDiff, Nat.reduceLT, Nat.reduceLeDiff, Nat.reduceAdd, Nat.reduceMul, Nat.reduceSub, Nat.reduceBEq, Nat.reduceDiv, Int.reduceNeg, Int.reduceLT, Int.reduceLE, Int.reduceEq, Int.reduceToNat, Int.reduceAdd, Int.reduceSub, Int.reduceMul, Int.reduceBEq, Int.reduceBNe, reduceBEq, c7_r19]
  split
  · simp only [go_sem, ↓reduceIte, reduceCtorEq, Nat.reduceEqDiff, Nat.reduceLT, Nat.reduceLeDiff, Nat.reduceAdd, Nat.reduceMul, Nat.reduceSub, Nat.reduceBEq, Nat.reduceDiv, Int.reduceNeg, Int.reduceLT, Int.reduceLE, Int.reduceEq, Int.reduceToNat, Int.reduceAdd, Int.reduceSub, Int.reduceMul, Int.reduceBEq, Int.reduceBNe, reduceBEq, c7_r20]
    refine (pick_spec r.stripe 43 (by omega) _).mono fun y s' hy => ?_
    obtain ⟨rfl, hs⟩ := hy
    have hs := hs.symm; subst hs
    simp only [go_sem, ↓reduceIte, reduceCtorEq, Nat.reduceEqDiff, Nat.reduceLT, Nat.reduceLeDiff, Nat.reduceAdd, Nat.reduceMul, Nat.reduceSub, Nat.reduceBEq, Nat.reduceDiv, Int.reduceNeg, Int.reduceLT, Int.reduceLE, Int.reduceEq, Int.reduceToNat, Int.reduceAdd, Int.reduceSub, Int.reduceMul, Int.reduceBEq, Int.reduceBNe, reduceBEq]
    exact ⟨⟨q.kd, pick r.stripe 43, q.gn, q.ix, q.d⟩, ⟨h1, pick_b _ _ (by omega) (by omega), h3, h4, h5⟩, .slots (all_cons rfl (all_cons rfl (all_cons rfl all_nil)))⟩
  · exact ⟨q, ⟨h1, h2, h3, h4, h5⟩, .slots (all_cons rfl (all_cons rfl (all_cons rfl all_nil)))⟩

theorem req_spec (r : RawQ) (hr : r.ok) (σ : Store) : ACalls Try.prog 7 [.agg r.cells] σ (fun x s => (∃ q : Q, q.fine ∧ x = AV.q q) ∧ s = σ) := by
  refine ACalls.of_awpc Try.func7 c7_eq c7_n c7_rs (by simp) fun hwf => ?_
  unfold c7
  refine AWPc.step ?_
  simp only [go_sem, ↓reduceIte, reduceCtorEq, Nat.reduceEqDiff, Nat.reduceLT, Nat.reduceLeDiff, Nat.reduceAdd, Nat.reduceMul, Nat.reduceSub, Nat.reduceBEq, Nat.reduceDiv, Int.reduceNeg, Int.reduceLT, Int.reduceLE, Int.reduceEq, Int.reduceToNat, Int.reduceAdd, Int.reduceSub, Int.reduceMul, Int.reduceBEq, Int.reduceBNe, reduceBEq, c7_r0]
  refine AWPc.step ?_
  simp only [go_sem, ↓reduceIte, reduceCtorEq, Nat.reduceEqDiff, Nat.reduceLT, Nat.reduceLeDiff, Nat.reduceAdd, Nat.reduceMul, Nat.reduceSub, Nat.reduceBEq, Nat.reduceDiv, Int.reduceNeg, Int.reduceLT, Int.reduceLE, Int.reduceEq, Int.reduceToNat, Int.reduceAdd, Int.reduceSub, Int.reduceMul, Int.reduceBEq, Int.reduceBNe, reduceBEq]
  refine awpDreg mixed [15, 16] (by kernel_rfl) (by kernel_rfl) fun ops1 => ?_
  simp only [go_sem, ↓reduceIte, reduceCtorEq, Nat.reduceEqDiff, Nat.reduceLT, Nat.reduceLeDiff, Nat.reduceAdd, Nat.reduceMul, Nat.reduceSub, Nat.reduceBEq, Nat.reduceDiv, Int.reduceNeg, Int.reduceLT, Int.reduceLE, Int.reduceEq, Int.reduceToNat, Int.reduceAdd, Int.reduceSub, Int.reduceMul, Int.reduceBEq, Int.reduceBNe, reduceBEq, c7_d1_ops]
  refine dregFn_fn call_12 (fun τ => pick_spec r.kind 6 (by omega) τ) (by simp only [go_sem, ↓reduceIte, reduceCtorEq, Nat.reduceEqDiff, Nat.reduceLT, Nat.reduceLeDiff, Nat.reduceAdd, Nat.reduceMul, Nat.reduceSub, Nat.reduceBEq, Nat.reduceDiv, Int.reduceNeg, Int.reduceLT, Int.reduceLE, Int.reduceEq, Int.reduceToNat, Int.reduceAdd, Int.reduceSub, Int.reduceMul, Int.reduceBEq, Int.reduceBNe, reduceBEq]) rfl rfl ?_
  simp only [go_sem, ↓reduceIte, reduceCtorEq, Nat.reduceEqDiff, Nat.reduceLT, Nat.reduceLeDiff, Nat.reduceAdd, Nat.reduceMul, Nat.reduceSub, Nat.reduceBEq, Nat.reduceDiv, Int.reduceNeg, Int.reduceLT, Int.reduceLE, Int.reduceEq, Int.reduceToNat, Int.reduceAdd, Int.reduceSub, Int.reduceMul, Int.reduceBEq, Int.reduceBNe, reduceBEq]
  refine dregFn_fn call_12 (fun τ => pick_spec r.stripe 5 (by omega) τ) (by simp only [go_sem, ↓reduceIte, reduceCtorEq, Nat.reduceEqDiff, Nat.reduceLT, Nat.reduceLeDiff, Nat.reduceAdd, Nat.reduceMul, Nat.reduceSub, Nat.reduceBEq, Nat.reduceDiv, Int.reduceNeg, Int.reduceLT, Int.reduceLE, Int.reduceEq, Int.reduceToNat, Int.reduceAdd, Int.reduceSub, Int.reduceMul, Int.reduceBEq, Int.reduceBNe, reduceBEq]) rfl rfl ?_
  simp only [go_sem, ↓reduceIte, reduceCtorEq, Nat.reduceEqDiff, Nat.reduceLT, Nat.reduceLeDiff, Nat.reduceAdd, Nat.reduceMul, Nat.reduceSub, Nat.reduceBEq, Nat.reduceDiv, Int.reduceNeg, Int.reduceLT, Int.reduceLE, Int.reduceEq, Int.reduceToNat, Int.reduceAdd, Int.reduceSub, Int.reduceMul, Int.reduceBEq, Int.reduceBNe, reduceBEq]
  refine dregFn_fn call_12 (fun τ => pick_spec r.gen 6 (by omega) τ) (by simp only [go_sem, ↓reduceIte, reduceCtorEq, Nat.reduceEqDiff, Nat.reduceLT, Nat.reduceLeDiff, Nat.reduceAdd, Nat.reduceMul, Nat.reduceSub, Nat.reduceBEq, Nat.reduceDiv, Int.reduceNeg, Int.reduceLT, Int.reduceLE, Int.reduceEq, Int.reduceToNat, Int.reduceAdd, Int.reduceSub, Int.reduceMul, Int.reduceBEq, Int.reduceBNe, reduceBEq]) rfl rfl ?_
  simp only [go_sem, ↓reduceIte, reduceCtorEq, Nat.reduceEqDiff, Nat.reduceLT, Nat.reduceLeDiff, Nat.reduceAdd, Nat.reduceMul, Nat.reduceSub, Nat.reduceBEq, Nat.reduceDiv, Int.reduceNeg, Int.reduceLT, Int.reduceLE, Int.reduceEq, Int.reduceToNat, Int.reduceAdd, Int.reduceSub, Int.reduceMul, Int.reduceBEq, Int.reduceBNe, reduceBEq]
  refine dregFn_fn call_12 (fun τ => pick_spec r.index 6 (by omega) τ) (by simp only [go_sem, ↓reduceIte, reduceCtorEq, Nat.reduceEqDiff, Nat.reduceLT, Nat.reduceLeDiff, Nat.reduceAdd, Nat.reduceMul, Nat.reduceSub, Nat.reduceBEq, Nat.reduceDiv, Int.reduceNeg, Int.reduceLT, Int.reduceLE, Int.reduceEq, Int.reduceToNat, Int.reduceAdd, Int.reduceSub, Int.reduceMul, Int.reduceBEq, Int.reduceBNe, reduceBEq]) rfl rfl ?_
  simp only [go_sem, ↓reduceIte, reduceCtorEq, Nat.reduceEqDiff, Nat.reduceLT, Nat.reduceLeDiff, Nat.reduceAdd, Nat.reduceMul, Nat.reduceSub, Nat.reduceBEq, Nat.reduceDiv, Int.reduceNeg, Int.reduceLT, Int.reduceLE, Int.reduceEq, Int.reduceToNat, Int.reduceAdd, Int.reduceSub, Int.reduceMul, Int.reduceBEq, Int.reduceBNe, reduceBEq]
  refine AWPc.cut (α := Q) (fun _ => reqE σ.next) (fun q => reqS σ r q) Q.fine (AWPc.weak (env' := reqE σ.next) (σ' := reqS σ r ⟨IntKind.i64.wrap (1 + pick r.kind 6), pick r.stripe 5, IntKind.i64.wrap (1 + pick r.gen 6), pick r.index 6, []⟩) ?_ (req_a r σ _ ?_ _)) fun q hq => ?_
  · refine Weak.trans (Weak.leObj (n := σ.next + 1 + 1) (cs := [.int .i64 (IntKind.i64.wrap (1 + pick r.kind 6)), .int .i64 (pick r.stripe 5), .int .i64 (IntKind.i64.wrap (1 + pick r.gen 6)), .int .i64 (pick r.index 6), .nil]) (ds := Q.cells ⟨IntKind.i64.wrap (1 + pick r.kind 6), pick r.stripe 5, IntKind.i64.wrap (1 + pick r.gen 6), pick r.index 6, []⟩) (by simp only [go_sem, ↓reduceIte, reduceCtorEq, Nat.reduceEqDiff, Nat.reduceLT, Nat.reduceLeDiff, Nat.reduceAdd, Nat.reduceMul, Nat.reduceSub, Nat.reduceBEq, Nat.reduceDiv, Int.reduceNeg, Int.reduceLT, Int.reduceLE, Int.reduceEq, Int.reduceToNat, Int.reduceAdd, Int.reduceSub, Int.reduceMul, Int.reduceBEq, Int.reduceBNe, reduceBEq]) rfl (le5 (.refl _) (.refl _) (.refl _) (.refl _) (Le.nil 1))) (Weak.slots' (setObj_newObj _ _ _) ?_)
    exact all_cons rfl (all_cons rfl (all_cons rfl all_nil))
  · exact ⟨wrap_b _, pick_b _ _ (by omega) (by omega), wrap_b _, pick_b _ _ (by omega) (by omega), by simp⟩
  refine AWPc.cut (α := Q) (fun _ => reqE σ.next) (fun q => reqS σ r q) Q.fine (req_b r hr σ q hq _) fun q hq => ?_
  refine AWPc.of_arun ?_
  simp only [go_sem, ↓reduceIte, reduceCtorEq, Nat.reduceEqDiff, Nat.reduceLT, Nat.reduceLeDiff, Nat.reduceAdd, Nat.reduceMul, Nat.reduceSub, Nat.reduceBEq, Nat.reduceDiv, Int.reduceNeg, Int.reduceLT, Int.reduceLE, Int.reduceEq, Int.reduceToNat, Int.reduceAdd, Int.reduceSub, Int.reduceMul, Int.reduceBEq, Int.reduceBNe, reduceBEq, c7_r21]
  exact ⟨_, _, _, rfl, WeakV.none hwf (by repeat (first | exact Agree.refl _ | refine Agree.newObj ?_ _ | refine Agree.newTok ?_ _ _ _ | refine Agree.killTok ?_ (by omega) | refine Agree.setObj ?_ (by omega) _ | refine Agree.dropObj ?_ (by omega))) (LeR.of_le (.refl _) (by simp)), ⟨q, hq, rfl⟩, rfl⟩
end Go.Proofs.Ytnanpamfdjnomaa
