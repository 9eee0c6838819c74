/- call: CallReps: its reply. -/
import Derived.Test.YtnanpamfdjnomaaCallR
import Derived.Test.YtnanpamfdjnomaaCallH
namespace Go.Proofs.Ytnanpamfdjnomaa
open Go Go.RowKit Go.Proofs.Ytnanpamfdjnomaa.AL
set_option maxRecDepth 100000
set_option linter.unusedSimpArgs false

abbrev RawQ.pvs (r : RawQ) : List PV := [.val (.int .i64 r.kind), .val (.int .i64 r.stripe), .val (.int .i64 r.gen), .val (.int .i64 r.index), .val (.int .i64 r.seed), .val (.int .i64 r.bend)]
def rowsQ (l : List RawQ) : List (List PV) := l.map RawQ.pvs
def rqAt (l : List RawQ) (i : Nat) : RawQ := l.getD i ⟨0, 0, 0, 0, 0, 0⟩
theorem rowsQ_length (l : List RawQ) : (rowsQ l).length = l.length := by simp [rowsQ]
theorem rowsQ_get {l : List RawQ} {i : Nat} (h : i < l.length) : (rowsQ l).getD i [] = RawQ.pvs (rqAt l i) := by simp [rowsQ, rqAt, List.getD_eq_getElem?_getD, List.getElem?_eq_getElem h]
def rqP (r : RawQ) : Pc := pcHand r.stripe r.gen r.index r.seed r.bend
def rqI (r : RawQ) : It := itHand r.stripe r.gen r.seed r.bend
def psR (l : List RawQ) (np : Int) : Nat → List Pc
  | 0 => []
  | i + 1 => if (i : Int) < np then psR l np i ++ [rqP (rqAt l i)] else psR l np i
def isR (l : List RawQ) (np : Int) : Nat → List It
  | 0 => []
  | i + 1 => if (i : Int) < np then isR l np i else isR l np i ++ [rqI (rqAt l i)]
theorem psR_length (l : List RawQ) (np : Int) : ∀ i, (psR l np i).length ≤ i
  | 0 => Nat.le_refl _
  | i + 1 => by have := psR_length l np i; rw [psR]; split <;> simp <;> omega
theorem isR_length (l : List RawQ) (np : Int) : ∀ i, (isR l np i).length ≤ i
  | 0 => Nat.le_refl _
  | i + 1 => by have := isR_length l np i; rw [isR]; split <;> simp <;> omega
theorem psR_d (l : List RawQ) (np : Int) : ∀ i, ∀ y ∈ psR l np i, y.d.length ≤ 40
  | 0 => by intro y hy; cases hy
  | i + 1 => by
    intro y hy
    rw [psR] at hy
    split at hy
    · rcases List.mem_append.1 hy with h | h
      · exact psR_d l np i y h
      · rw [List.mem_singleton.1 h]; exact pcHand_d _ _ _ _ _
    · exact psR_d l np i y hy
theorem isR_d (l : List RawQ) (np : Int) : ∀ i, ∀ y ∈ isR l np i, y.d.length ≤ 140
  | 0 => by intro y hy; cases hy
  | i + 1 => by
    intro y hy
    rw [isR] at hy
    split at hy
    · exact isR_d l np i y hy
    · rcases List.mem_append.1 hy with h | h
      · exact isR_d l np i y h
      · rw [List.mem_singleton.1 h]; exact itHand_d _ _ _ _
theorem le4 {a b c d a' b' c' d' : AV} (h1 : Le a a') (h2 : Le b b') (h3 : Le c c') (h4 : Le d d') : ∀ (i : Nat) (x y : AV), [a, b, c, d][i]? = some x → [a', b', c', d'][i]? = some y → Le x y := fun i x y hx hy => by
  match i, hx, hy with
  | 0, hx, hy => simp at hx hy; subst hx; subst hy; exact h1
  | 1, hx, hy => simp at hx hy; subst hx; subst hy; exact h2
  | 2, hx, hy => simp at hx hy; subst hx; subst hy; exact h3
  | 3, hx, hy => simp at hx hy; subst hx; subst hy; exact h4
  | n + 4, hx, hy => simp at hx

/-- The loop's state. -/
structure LI (σ s : Store) (cd bt : Int) (ps : List Pc) (is : List It) (t1 t2 : Nat) : Prop where
  o : s.objs σ.next = some [.int .i64 cd, .int .i64 bt, .row t1 4 (encP ps), .row t2 3 (encI is)]
  k1 : s.toks t1 = some (49, 4, ps.length)
  k2 : s.toks t2 = some (52, 3, is.length)
  g1 : σ.next < t1
  g2 : σ.next < t2
  ne : t1 ≠ t2
  n1 : t1 < s.next
  n2 : t2 < s.next
  ag : Agree σ s
  tp : s.toks σ.next = σ.toks σ.next
theorem LI.one {σ s : Store} {cd bt : Int} {ps : List Pc} {is : List It} {t1 t2 : Nat} (h : LI σ s cd bt ps is t1 t2) (ps' : List Pc) :
    LI σ (((s.killTok t1).newTok 49 4 ps'.length).setObj σ.next [.int .i64 cd, .int .i64 bt, .row s.next 4 (encP ps'), .row t2 3 (encI is)]) cd bt ps' is s.next t2 := by
  obtain ⟨o, k1, k2, g1, g2, ne, n1, n2, ag, tp⟩ := h
  have e1 : (t2 = s.next) = False := eq_false (by omega)
  have e2 : (t2 = t1) = False := eq_false (fun h => ne h.symm)
  have e3 : (σ.next = s.next) = False := eq_false (by omega)
  have e4 : (σ.next = t1) = False := eq_false (by omega)
  refine ⟨?_, ?_, ?_, by omega, g2, by omega, by simp only [go_sem], by simp only [go_sem]; omega, ?_, ?_⟩
  · simp only [go_sem, ↓reduceIte, reduceCtorEq, Nat.reduceEqDiff, Nat.reduceLT, Nat.reduceLeDiff, Nat.reduceAdd, Nat.reduceMul, Nat.reduceSub, Nat.reduceBEq, Nat.reduceDiv, Int.reduceNeg, Int.reduceLT, Int.reduceLE, Int.reduceEq, Int.reduceToNat, Int.reduceAdd, Int.reduceSub, Int.reduceMul, Int.reduceBEq, Int.reduceBNe, reduceBEq]
  · simp only [go_sem, ↓reduceIte, reduceCtorEq, Nat.reduceEqDiff, Nat.reduceLT, Nat.reduceLeDiff, Nat.reduceAdd, Nat.reduceMul, Nat.reduceSub, Nat.reduceBEq, Nat.reduceDiv, Int.reduceNeg, Int.reduceLT, Int.reduceLE, Int.reduceEq, Int.reduceToNat, Int.reduceAdd, Int.reduceSub, Int.reduceMul, Int.reduceBEq, Int.reduceBNe, reduceBEq]
  · simp only [go_sem, ↓reduceIte, reduceCtorEq, Nat.reduceEqDiff, Nat.reduceLT, Nat.reduceLeDiff, Nat.reduceAdd, Nat.reduceMul, Nat.reduceSub, Nat.reduceBEq, Nat.reduceDiv, Int.reduceNeg, Int.reduceLT, Int.reduceLE, Int.reduceEq, Int.reduceToNat, Int.reduceAdd, Int.reduceSub, Int.reduceMul, Int.reduceBEq, Int.reduceBNe, reduceBEq, e1, e2, k2]
  · exact ((ag.killTok (by omega)).newTok _ _ _).setObj (Nat.le_refl _) _
  · simp only [go_sem, ↓reduceIte, reduceCtorEq, Nat.reduceEqDiff, Nat.reduceLT, Nat.reduceLeDiff, Nat.reduceAdd, Nat.reduceMul, Nat.reduceSub, Nat.reduceBEq, Nat.reduceDiv, Int.reduceNeg, Int.reduceLT, Int.reduceLE, Int.reduceEq, Int.reduceToNat, Int.reduceAdd, Int.reduceSub, Int.reduceMul, Int.reduceBEq, Int.reduceBNe, reduceBEq, e3, e4, tp]
theorem LI.two {σ s : Store} {cd bt : Int} {ps : List Pc} {is : List It} {t1 t2 : Nat} (h : LI σ s cd bt ps is t1 t2) (is' : List It) :
    LI σ (((s.killTok t2).newTok 52 3 is'.length).setObj σ.next [.int .i64 cd, .int .i64 bt, .row t1 4 (encP ps), .row s.next 3 (encI is')]) cd bt ps is' t1 s.next := by
  obtain ⟨o, k1, k2, g1, g2, ne, n1, n2, ag, tp⟩ := h
  have e1 : (t1 = s.next) = False := eq_false (by omega)
  have e2 : (t1 = t2) = False := eq_false ne
  have e3 : (σ.next = s.next) = False := eq_false (by omega)
  have e4 : (σ.next = t2) = False := eq_false (by omega)
  refine ⟨?_, ?_, ?_, g1, by omega, by omega, by simp only [go_sem]; omega, by simp only [go_sem], ?_, ?_⟩
  · simp only [go_sem, ↓reduceIte, reduceCtorEq, Nat.reduceEqDiff, Nat.reduceLT, Nat.reduceLeDiff, Nat.reduceAdd, Nat.reduceMul, Nat.reduceSub, Nat.reduceBEq, Nat.reduceDiv, Int.reduceNeg, Int.reduceLT, Int.reduceLE, Int.reduceEq, Int.reduceToNat, Int.reduceAdd, Int.reduceSub, Int.reduceMul, Int.reduceBEq, Int.reduceBNe, reduceBEq]
  · simp only [go_sem, ↓reduceIte, reduceCtorEq, Nat.reduceEqDiff, Nat.reduceLT, Nat.reduceLeDiff, Nat.reduceAdd, Nat.reduceMul, Nat.reduceSub, Nat.reduceBEq, Nat.reduceDiv, Int.reduceNeg, Int.reduceLT, Int.reduceLE, Int.reduceEq, Int.reduceToNat, Int.reduceAdd, Int.reduceSub, Int.reduceMul, Int.reduceBEq, Int.reduceBNe, reduceBEq, e1, e2, k1]
  · simp only [go_sem, ↓reduceIte, reduceCtorEq, Nat.reduceEqDiff, Nat.reduceLT, Nat.reduceLeDiff, Nat.reduceAdd, Nat.reduceMul, Nat.reduceSub, Nat.reduceBEq, Nat.reduceDiv, Int.reduceNeg, Int.reduceLT, Int.reduceLE, Int.reduceEq, Int.reduceToNat, Int.reduceAdd, Int.reduceSub, Int.reduceMul, Int.reduceBEq, Int.reduceBNe, reduceBEq]
  · exact ((ag.killTok (by omega)).newTok _ _ _).setObj (Nat.le_refl _) _
  · simp only [go_sem, ↓reduceIte, reduceCtorEq, Nat.reduceEqDiff, Nat.reduceLT, Nat.reduceLeDiff, Nat.reduceAdd, Nat.reduceMul, Nat.reduceSub, Nat.reduceBEq, Nat.reduceDiv, Int.reduceNeg, Int.reduceLT, Int.reduceLE, Int.reduceEq, Int.reduceToNat, Int.reduceAdd, Int.reduceSub, Int.reduceMul, Int.reduceBEq, Int.reduceBNe, reduceBEq, e3, e4, tp]
theorem LI.end {σ s : Store} {cd bt : Int} {ps : List Pc} {is : List It} {t1 t2 : Nat} (h : LI σ s cd bt ps is t1 t2) : Agree (σ.newObj (Rp.avs ⟨cd, bt, ps, is⟩)) (s.setObj σ.next (Rp.avs ⟨cd, bt, ps, is⟩)) := by
  obtain ⟨o, k1, k2, g1, g2, ne, n1, n2, ag, tp⟩ := h
  refine ⟨by simp only [go_sem]; omega, fun n hn => ?_, fun n hn => ?_⟩
  · simp only [go_sem] at hn ⊢
    by_cases q : n = σ.next
    · subst q; simp
    · rw [if_neg q, if_neg q]; exact ag.obj n (by omega)
  · simp only [go_sem] at hn ⊢
    by_cases q : n = σ.next
    · subst q; exact tp
    · exact ag.tok n (by omega)

abbrev REnv (P : Nat) (raw : List UInt8) (how : Int) (at' : List Int) (m : UInt8) : Env := [(17, .ptr P 0), (4, AV.bytes raw), (5, .int .i64 how), (6, .pv (.lst 1 (intsI at'))), (7, .int .u8 (m.toNat : Int))]

theorem reps_loop (cd bt np : Int) (l : List RawQ) (hl : l.length < 2 ^ 47) (raw : List UInt8) (how : Int) (at' : List Int) (m : UInt8) (σ : Store) (hwf : σ.Wf) (Q : Exit → Env → Store → Prop)
    (hQ : ∀ p : Rp, p.ps.length ≤ 6 → p.is.length ≤ 6 → (∀ y ∈ p.ps, y.d.length ≤ 40) → (∀ y ∈ p.is, y.d.length ≤ 140) → AWPc Try.prog 226 σ.next (.seq (.reg c6_r12) (.seq (.reg c6_r13) (.seq (.reg c6_r14) (.seq (.seq (.reg c6_r15) (.cond (.tmp 120) (.reg c6_r16) .skip)) (.seq (.seq (.reg c6_r17) (.cond (.tmp 141) (.seq (.reg c6_r18) .ret) .skip)) (.seq (.reg c6_r19) (.seq (.seq (.reg c6_r20) (.cond (.tmp 151) (.seq (.reg c6_r21) (.seq (.seq (.reg c6_r22) (.block 2 (.loop c6_l1))) (.reg c6_r26))) .skip)) (.seq (.reg c6_r27) (.seq (.reg c6_r28) (.seq (.raw c6_d29) .ret)))))))))) (REnv σ.next raw how at' m) (σ.newObj p.avs) Q) :
    AWPc Try.prog 226 σ.next (.seq (.seq (.reg c6_r6) (.block 0 (.loop c6_l0))) (.seq (.reg c6_r12) (.seq (.reg c6_r13) (.seq (.reg c6_r14) (.seq (.seq (.reg c6_r15) (.cond (.tmp 120) (.reg c6_r16) .skip)) (.seq (.seq (.reg c6_r17) (.cond (.tmp 141) (.seq (.reg c6_r18) .ret) .skip)) (.seq (.reg c6_r19) (.seq (.seq (.reg c6_r20) (.cond (.tmp 151) (.seq (.reg c6_r21) (.seq (.seq (.reg c6_r22) (.block 2 (.loop c6_l1))) (.reg c6_r26))) .skip)) (.seq (.reg c6_r27) (.seq (.reg c6_r28) (.seq (.raw c6_d29) .ret)))))))))))
      ((2, .pv (.lst 6 (rowsQ l))) :: (3, .int .i64 np) :: REnv σ.next raw how at' m) (σ.newObj [.int .i64 cd, .int .i64 bt, .nil, .nil]) Q := by
  refine AWPc.seq (AWPc.step ?_)
  simp only [go_sem, ↓reduceIte, reduceCtorEq, Nat.reduceEqDiff, Nat.reduceLT, Nat.reduceLeDiff, Nat.reduceAdd, Nat.reduceMul, Nat.reduceSub, Nat.reduceBEq, Nat.reduceDiv, Int.reduceNeg, Int.reduceLT, Int.reduceLE, Int.reduceEq, Int.reduceToNat, Int.reduceAdd, Int.reduceSub, Int.reduceMul, Int.reduceBEq, Int.reduceBNe, reduceBEq, c6_r6]
  refine AWPc.weak (Weak.fullObj σ.next 2 (cs := [.int .i64 cd, .int .i64 bt, .nil, .nil]) (by simp only [go_sem, ↓reduceIte, reduceCtorEq, Nat.reduceEqDiff, Nat.reduceLT, Nat.reduceLeDiff, Nat.reduceAdd, Nat.reduceMul, Nat.reduceSub, Nat.reduceBEq, Nat.reduceDiv, Int.reduceNeg, Int.reduceLT, Int.reduceLE, Int.reduceEq, Int.reduceToNat, Int.reduceAdd, Int.reduceSub, Int.reduceMul, Int.reduceBEq, Int.reduceBNe, reduceBEq]) rfl 49 4 (xs := []) rfl 0) ?_
  refine AWPc.weak (Weak.fullObj σ.next 3 (cs := [.int .i64 cd, .int .i64 bt, .row (σ.next + 1) 4 [], .nil]) (by simp only [go_sem, ↓reduceIte, reduceCtorEq, Nat.reduceEqDiff, Nat.reduceLT, Nat.reduceLeDiff, Nat.reduceAdd, Nat.reduceMul, Nat.reduceSub, Nat.reduceBEq, Nat.reduceDiv, Int.reduceNeg, Int.reduceLT, Int.reduceLE, Int.reduceEq, Int.reduceToNat, Int.reduceAdd, Int.reduceSub, Int.reduceMul, Int.reduceBEq, Int.reduceBNe, reduceBEq]; rfl) rfl 52 3 (xs := []) rfl 0) ?_
  generalize hs0 : Store.setObj (Store.newTok _ _ _ _) _ _ = s0
  have hI0 : LI σ s0 cd bt (psR l np 0) (isR l np 0) (σ.next + 1) (σ.next + 1 + 1) := by
    subst hs0
    refine ⟨?_, ?_, ?_, by omega, by omega, by omega, ?_, ?_, ?_, ?_⟩
    · simp only [go_sem, ↓reduceIte, reduceCtorEq, Nat.reduceEqDiff, Nat.reduceLT, Nat.reduceLeDiff, Nat.reduceAdd, Nat.reduceMul, Nat.reduceSub, Nat.reduceBEq, Nat.reduceDiv, Int.reduceNeg, Int.reduceLT, Int.reduceLE, Int.reduceEq, Int.reduceToNat, Int.reduceAdd, Int.reduceSub, Int.reduceMul, Int.reduceBEq, Int.reduceBNe, reduceBEq]; rfl
    · simp only [go_sem, ↓reduceIte, reduceCtorEq, Nat.reduceEqDiff, Nat.reduceLT, Nat.reduceLeDiff, Nat.reduceAdd, Nat.reduceMul, Nat.reduceSub, Nat.reduceBEq, Nat.reduceDiv, Int.reduceNeg, Int.reduceLT, Int.reduceLE, Int.reduceEq, Int.reduceToNat, Int.reduceAdd, Int.reduceSub, Int.reduceMul, Int.reduceBEq, Int.reduceBNe, reduceBEq]; rfl
    · simp only [go_sem, ↓reduceIte, reduceCtorEq, Nat.reduceEqDiff, Nat.reduceLT, Nat.reduceLeDiff, Nat.reduceAdd, Nat.reduceMul, Nat.reduceSub, Nat.reduceBEq, Nat.reduceDiv, Int.reduceNeg, Int.reduceLT, Int.reduceLE, Int.reduceEq, Int.reduceToNat, Int.reduceAdd, Int.reduceSub, Int.reduceMul, Int.reduceBEq, Int.reduceBNe, reduceBEq]; rfl
    · simp only [go_sem, ↓reduceIte, reduceCtorEq, Nat.reduceEqDiff, Nat.reduceLT, Nat.reduceLeDiff, Nat.reduceAdd, Nat.reduceMul, Nat.reduceSub, Nat.reduceBEq, Nat.reduceDiv, Int.reduceNeg, Int.reduceLT, Int.reduceLE, Int.reduceEq, Int.reduceToNat, Int.reduceAdd, Int.reduceSub, Int.reduceMul, Int.reduceBEq, Int.reduceBNe, reduceBEq]
    · simp only [go_sem, ↓reduceIte, reduceCtorEq, Nat.reduceEqDiff, Nat.reduceLT, Nat.reduceLeDiff, Nat.reduceAdd, Nat.reduceMul, Nat.reduceSub, Nat.reduceBEq, Nat.reduceDiv, Int.reduceNeg, Int.reduceLT, Int.reduceLE, Int.reduceEq, Int.reduceToNat, Int.reduceAdd, Int.reduceSub, Int.reduceMul, Int.reduceBEq, Int.reduceBNe, reduceBEq]
    · exact (by repeat (first | exact Agree.refl _ | refine Agree.newObj ?_ _ | refine Agree.newTok ?_ _ _ _ | refine Agree.killTok ?_ (by first | omega | (simp only [go_sem] <;> omega)) | refine Agree.setObj ?_ (by first | omega | (simp only [go_sem] <;> omega)) _ | refine Agree.dropObj ?_ (by first | omega | (simp only [go_sem] <;> omega))))
    · simp only [go_sem, ↓reduceIte, reduceCtorEq, Nat.reduceEqDiff, Nat.reduceLT, Nat.reduceLeDiff, Nat.reduceAdd, Nat.reduceMul, Nat.reduceSub, Nat.reduceBEq, Nat.reduceDiv, Int.reduceNeg, Int.reduceLT, Int.reduceLE, Int.reduceEq, Int.reduceToNat, Int.reduceAdd, Int.reduceSub, Int.reduceMul, Int.reduceBEq, Int.reduceBNe, reduceBEq]
  clear hs0
  refine AWPc.block (AWPc.loop (α := Nat × Store × Nat × Nat) (fun a => (2, .pv (.lst 6 (rowsQ l))) :: (3, .int .i64 np) :: (18, .int .i64 a.1) :: REnv σ.next raw how at' m) (fun a => a.2.1)
    (fun a => a.1 ≤ 6 ∧ LI σ a.2.1 cd bt (psR l np a.1) (isR l np a.1) a.2.2.1 a.2.2.2) (fun a => 6 - a.1)
    ⟨(0, s0, σ.next + 1, σ.next + 1 + 1), ⟨by omega, hI0⟩, Weak.slots (all_cons rfl (all_cons rfl (all_cons rfl (all_cons rfl (all_cons rfl (all_cons rfl (all_cons rfl (all_cons rfl all_nil))))))))⟩ ?_)
  rintro ⟨i, s, t1, t2⟩ ⟨hi, hI⟩
  dsimp only at hi hI
  have o := hI.o
  have k1 := hI.k1
  have k2 := hI.k2
  have hpl := psR_length l np i
  have hil := isR_length l np i
  have fin : ∀ env : Env, (∀ z ∈ REnv σ.next raw how at' m, env.get z.1 = z.2) → AWPc Try.prog 226 σ.next (.seq (.reg c6_r12) (.seq (.reg c6_r13) (.seq (.reg c6_r14) (.seq (.seq (.reg c6_r15) (.cond (.tmp 120) (.reg c6_r16) .skip)) (.seq (.seq (.reg c6_r17) (.cond (.tmp 141) (.seq (.reg c6_r18) .ret) .skip)) (.seq (.reg c6_r19) (.seq (.seq (.reg c6_r20) (.cond (.tmp 151) (.seq (.reg c6_r21) (.seq (.seq (.reg c6_r22) (.block 2 (.loop c6_l1))) (.reg c6_r26))) .skip)) (.seq (.reg c6_r27) (.seq (.reg c6_r28) (.seq (.raw c6_d29) .ret)))))))))) env s Q := fun env he =>
    AWPc.weak (Weak.trans (Weak.slots he) (Weak.trans (Weak.leObj (n := σ.next) (ds := Rp.avs ⟨cd, bt, psR l np i, isR l np i⟩) o rfl (le4 (.refl _) (.refl _) (Le.list (es := 4) rfl) (Le.list (es := 3) rfl))) (Weak.none (hwf.newObj (Rp.avs_lt ⟨cd, bt, psR l np i, isR l np i⟩ _)) (Nat.le_succ _) hI.end
      (all_cons (.same (by simp only [go_sem, ↓reduceIte, reduceCtorEq, Nat.reduceEqDiff, Nat.reduceLT, Nat.reduceLeDiff, Nat.reduceAdd, Nat.reduceMul, Nat.reduceSub, Nat.reduceBEq, Nat.reduceDiv, Int.reduceNeg, Int.reduceLT, Int.reduceLE, Int.reduceEq, Int.reduceToNat, Int.reduceAdd, Int.reduceSub, Int.reduceMul, Int.reduceBEq, Int.reduceBNe, reduceBEq]; simp)) (all_cons (.pv _ _ _) (all_cons (.pv _ _ _) (all_cons (.pv _ _ _) (all_cons (.pv _ _ _) all_nil)))))))) (hQ ⟨cd, bt, psR l np i, isR l np i⟩ (by dsimp only; omega) (by dsimp only; omega) (psR_d l np i) (isR_d l np i))
  by_cases h1 : i < l.length
  case neg =>
    have d1 : decide ((i : Int) < l.length) = false := decide_eq_false (by omega)
    simp only [go_sem, ↓reduceIte, reduceCtorEq, Nat.reduceEqDiff, Nat.reduceLT, Nat.reduceLeDiff, Nat.reduceAdd, Nat.reduceMul, Nat.reduceSub, Nat.reduceBEq, Nat.reduceDiv, Int.reduceNeg, Int.reduceLT, Int.reduceLE, Int.reduceEq, Int.reduceToNat, Int.reduceAdd, Int.reduceSub, Int.reduceMul, Int.reduceBEq, Int.reduceBNe, reduceBEq, c6_l0, c6_r7, rowsQ_length, d1]
    exact fin _ (all_cons rfl (all_cons rfl (all_cons rfl (all_cons rfl (all_cons rfl all_nil)))))
  have d1 : decide ((i : Int) < l.length) = true := decide_eq_true (by omega)
  by_cases h2 : i < 6
  case neg =>
    have d2 : decide ((i : Int) < 6) = false := decide_eq_false (by omega)
    simp only [go_sem, ↓reduceIte, reduceCtorEq, Nat.reduceEqDiff, Nat.reduceLT, Nat.reduceLeDiff, Nat.reduceAdd, Nat.reduceMul, Nat.reduceSub, Nat.reduceBEq, Nat.reduceDiv, Int.reduceNeg, Int.reduceLT, Int.reduceLE, Int.reduceEq, Int.reduceToNat, Int.reduceAdd, Int.reduceSub, Int.reduceMul, Int.reduceBEq, Int.reduceBNe, reduceBEq, c6_l0, c6_r7, rowsQ_length, d1, d2]
    exact fin _ (all_cons rfl (all_cons rfl (all_cons rfl (all_cons rfl (all_cons rfl all_nil)))))
  have d2 : decide ((i : Int) < 6) = true := decide_eq_true (by omega)
  have wi : IntKind.i64.wrap ((i : Int) + 1) = ((i + 1 : Nat) : Int) := by rw [w64 (by omega) (by omega)]; rfl
  by_cases h3 : (i : Int) < np
  · have d3 : decide ((i : Int) < np) = true := decide_eq_true h3
    have ep : psR l np (i + 1) = psR l np i ++ [rqP (rqAt l i)] := by rw [psR, if_pos h3]
    have ei : isR l np (i + 1) = isR l np i := by rw [isR, if_pos h3]
    have e := encP_append (psR l np i) (rqP (rqAt l i))
    rw [← ep] at e
    have el : (psR l np i).length + 1 = (psR l np (i + 1)).length := by rw [ep]; simp
    simp only [go_sem, ↓reduceIte, reduceCtorEq, Nat.reduceEqDiff, Nat.reduceLT, Nat.reduceLeDiff, Nat.reduceAdd, Nat.reduceMul, Nat.reduceSub, Nat.reduceBEq, Nat.reduceDiv, Int.reduceNeg, Int.reduceLT, Int.reduceLE, Int.reduceEq, Int.reduceToNat, Int.reduceAdd, Int.reduceSub, Int.reduceMul, Int.reduceBEq, Int.reduceBNe, reduceBEq, c6_l0, c6_r7, rowsQ_length, d1, d2]
    simp only [go_sem, ↓reduceIte, reduceCtorEq, Nat.reduceEqDiff, Nat.reduceLT, Nat.reduceLeDiff, Nat.reduceAdd, Nat.reduceMul, Nat.reduceSub, Nat.reduceBEq, Nat.reduceDiv, Int.reduceNeg, Int.reduceLT, Int.reduceLE, Int.reduceEq, Int.reduceToNat, Int.reduceAdd, Int.reduceSub, Int.reduceMul, Int.reduceBEq, Int.reduceBNe, reduceBEq, c6_r9, d3]
    refine awpDreg mixed [29, 31, 1031] (by kernel_rfl) (by kernel_rfl) fun ops1 => ?_
    simp only [go_sem, ↓reduceIte, reduceCtorEq, Nat.reduceEqDiff, Nat.reduceLT, Nat.reduceLeDiff, Nat.reduceAdd, Nat.reduceMul, Nat.reduceSub, Nat.reduceBEq, Nat.reduceDiv, Int.reduceNeg, Int.reduceLT, Int.reduceLE, Int.reduceEq, Int.reduceToNat, Int.reduceAdd, Int.reduceSub, Int.reduceMul, Int.reduceBEq, Int.reduceBNe, reduceBEq, c6_d10_ops, o, rowsQ_length, Int.toNat_natCast, rowsQ_get h1]
    refine ⟨by omega, by omega, by omega, by omega, by omega, dregFn_fn call_17 (fun τ => pieceHand_spec (rqAt l i).stripe (rqAt l i).gen (rqAt l i).index (rqAt l i).seed (rqAt l i).bend τ) (by simp only [go_sem, ↓reduceIte, reduceCtorEq, Nat.reduceEqDiff, Nat.reduceLT, Nat.reduceLeDiff, Nat.reduceAdd, Nat.reduceMul, Nat.reduceSub, Nat.reduceBEq, Nat.reduceDiv, Int.reduceNeg, Int.reduceLT, Int.reduceLE, Int.reduceEq, Int.reduceToNat, Int.reduceAdd, Int.reduceSub, Int.reduceMul, Int.reduceBEq, Int.reduceBNe, reduceBEq]) rfl rfl ?_⟩
    have e' : encP (psR l np i) ++ [Pc.cells (pcHand (rqAt l i).stripe (rqAt l i).gen (rqAt l i).index (rqAt l i).seed (rqAt l i).bend)] = encP (psR l np (i + 1)) := e
    simp only [go_sem, ↓reduceIte, reduceCtorEq, Nat.reduceEqDiff, Nat.reduceLT, Nat.reduceLeDiff, Nat.reduceAdd, Nat.reduceMul, Nat.reduceSub, Nat.reduceBEq, Nat.reduceDiv, Int.reduceNeg, Int.reduceLT, Int.reduceLE, Int.reduceEq, Int.reduceToNat, Int.reduceAdd, Int.reduceSub, Int.reduceMul, Int.reduceBEq, Int.reduceBNe, reduceBEq, maxLen, Nat.reducePow, o, k1, encP_length, e', el, c6_r8, wi]
    refine ⟨⟨by omega, by omega⟩, ⟨i + 1, ((s.killTok t1).newTok 49 4 (psR l np (i + 1)).length).setObj σ.next [.int .i64 cd, .int .i64 bt, .row s.next 4 (encP (psR l np (i + 1))), .row t2 3 (encI (isR l np i))], s.next, t2⟩, ⟨by dsimp only; omega, by dsimp only; rw [ei]; exact hI.one _⟩, by dsimp only; omega, ?_⟩
    exact Weak.slots' rfl (all_cons rfl (all_cons rfl (all_cons rfl (all_cons rfl (all_cons rfl (all_cons rfl (all_cons rfl (all_cons rfl all_nil))))))))
  · have d3 : decide ((i : Int) < np) = false := decide_eq_false h3
    have ep : isR l np (i + 1) = isR l np i ++ [rqI (rqAt l i)] := by rw [isR, if_neg h3]
    have ei : psR l np (i + 1) = psR l np i := by rw [psR, if_neg h3]
    have e := encI_append (isR l np i) (rqI (rqAt l i))
    rw [← ep] at e
    have el : (isR l np i).length + 1 = (isR l np (i + 1)).length := by rw [ep]; simp
    simp only [go_sem, ↓reduceIte, reduceCtorEq, Nat.reduceEqDiff, Nat.reduceLT, Nat.reduceLeDiff, Nat.reduceAdd, Nat.reduceMul, Nat.reduceSub, Nat.reduceBEq, Nat.reduceDiv, Int.reduceNeg, Int.reduceLT, Int.reduceLE, Int.reduceEq, Int.reduceToNat, Int.reduceAdd, Int.reduceSub, Int.reduceMul, Int.reduceBEq, Int.reduceBNe, reduceBEq, c6_l0, c6_r7, rowsQ_length, d1, d2]
    simp only [go_sem, ↓reduceIte, reduceCtorEq, Nat.reduceEqDiff, Nat.reduceLT, Nat.reduceLeDiff, Nat.reduceAdd, Nat.reduceMul, Nat.reduceSub, Nat.reduceBEq, Nat.reduceDiv, Int.reduceNeg, Int.reduceLT, Int.reduceLE, Int.reduceEq, Int.reduceToNat, Int.reduceAdd, Int.reduceSub, Int.reduceMul, Int.reduceBEq, Int.reduceBNe, reduceBEq, c6_r9, d3]
    refine awpDreg mixed [24, 26, 1026] (by kernel_rfl) (by kernel_rfl) fun ops1 => ?_
    simp only [go_sem, ↓reduceIte, reduceCtorEq, Nat.reduceEqDiff, Nat.reduceLT, Nat.reduceLeDiff, Nat.reduceAdd, Nat.reduceMul, Nat.reduceSub, Nat.reduceBEq, Nat.reduceDiv, Int.reduceNeg, Int.reduceLT, Int.reduceLE, Int.reduceEq, Int.reduceToNat, Int.reduceAdd, Int.reduceSub, Int.reduceMul, Int.reduceBEq, Int.reduceBNe, reduceBEq, c6_d11_ops, o, rowsQ_length, Int.toNat_natCast, rowsQ_get h1]
    refine ⟨by omega, by omega, by omega, by omega, dregFn_fn call_18 (fun τ => intentHand_spec (rqAt l i).stripe (rqAt l i).gen (rqAt l i).seed (rqAt l i).bend τ) (by simp only [go_sem, ↓reduceIte, reduceCtorEq, Nat.reduceEqDiff, Nat.reduceLT, Nat.reduceLeDiff, Nat.reduceAdd, Nat.reduceMul, Nat.reduceSub, Nat.reduceBEq, Nat.reduceDiv, Int.reduceNeg, Int.reduceLT, Int.reduceLE, Int.reduceEq, Int.reduceToNat, Int.reduceAdd, Int.reduceSub, Int.reduceMul, Int.reduceBEq, Int.reduceBNe, reduceBEq]) rfl rfl ?_⟩
    have e' : encI (isR l np i) ++ [It.cells (itHand (rqAt l i).stripe (rqAt l i).gen (rqAt l i).seed (rqAt l i).bend)] = encI (isR l np (i + 1)) := e
    simp only [go_sem, ↓reduceIte, reduceCtorEq, Nat.reduceEqDiff, Nat.reduceLT, Nat.reduceLeDiff, Nat.reduceAdd, Nat.reduceMul, Nat.reduceSub, Nat.reduceBEq, Nat.reduceDiv, Int.reduceNeg, Int.reduceLT, Int.reduceLE, Int.reduceEq, Int.reduceToNat, Int.reduceAdd, Int.reduceSub, Int.reduceMul, Int.reduceBEq, Int.reduceBNe, reduceBEq, maxLen, Nat.reducePow, o, k2, encI_length, e', el, c6_r8, wi]
    refine ⟨⟨by omega, by omega⟩, ⟨i + 1, ((s.killTok t2).newTok 52 3 (isR l np (i + 1)).length).setObj σ.next [.int .i64 cd, .int .i64 bt, .row t1 4 (encP (psR l np i)), .row s.next 3 (encI (isR l np (i + 1)))], t1, s.next⟩, ⟨by dsimp only; omega, by dsimp only; rw [ei]; exact hI.two _⟩, by dsimp only; omega, ?_⟩
    exact Weak.slots' rfl (all_cons rfl (all_cons rfl (all_cons rfl (all_cons rfl (all_cons rfl (all_cons rfl (all_cons rfl (all_cons rfl all_nil))))))))
end Go.Proofs.Ytnanpamfdjnomaa
