/- call: ReadRep. -/
import Derived.Test.YtnanpamfdjnomaaCallL
namespace Go.Proofs.Ytnanpamfdjnomaa
open Go Go.RowKit Go.Proofs.Ytnanpamfdjnomaa.AL
set_option maxRecDepth 100000
set_option linter.unusedSimpArgs false

abbrev zrpc : List AV := [.int .i64 0, .int .i64 0, .nil, .nil]
/-- The state of a reader's loop: the answer's cell, the reader, the reply, a row that is appended to. -/
structure RI (σ s : Store) (r : RS) (cells : List AV) (t : Nat) (e : TypeId) (es m : Nat) : Prop where
  o0 : s.objs σ.next = some zrpc
  o1 : s.objs (σ.next + 1) = some r.av
  o2 : s.objs (σ.next + 1 + 1) = some cells
  tk : s.toks t = some (e, es, m)
  ge : σ.next + 1 + 1 < t
  nx : t < s.next
  ag : Agree σ s
theorem RI.step {σ s : Store} {r : RS} {cells : List AV} {t : Nat} {e : TypeId} {es m : Nat} (h : RI σ s r cells t e es m) (r' : RS) (cells' : List AV) (m' : Nat) :
    RI σ ((((s.setObj (σ.next + 1) r'.av).killTok t).newTok e es m').setObj (σ.next + 1 + 1) cells') r' cells' s.next e es m' := by
  have h1 := h.ge
  have h2 := h.nx
  refine ⟨?_, ?_, ?_, ?_, by omega, by simp only [go_sem], ?_⟩
  · simp only [go_sem, ↓reduceIte, reduceCtorEq, Nat.reduceEqDiff, Nat.reduceLT, Nat.reduceLeDiff, Nat.reduceAdd, Nat.reduceMul, Nat.reduceSub, Nat.reduceBEq, Nat.reduceDiv, Int.reduceNeg, Int.reduceLT, Int.reduceLE, Int.reduceEq, Int.reduceToNat, Int.reduceAdd, Int.reduceSub, Int.reduceMul, Int.reduceBEq, Int.reduceBNe, reduceBEq, h.o0]
  · simp only [go_sem, ↓reduceIte, reduceCtorEq, Nat.reduceEqDiff, Nat.reduceLT, Nat.reduceLeDiff, Nat.reduceAdd, Nat.reduceMul, Nat.reduceSub, Nat.reduceBEq, Nat.reduceDiv, Int.reduceNeg, Int.reduceLT, Int.reduceLE, Int.reduceEq, Int.reduceToNat, Int.reduceAdd, Int.reduceSub, Int.reduceMul, Int.reduceBEq, Int.reduceBNe, reduceBEq]
  · simp only [go_sem, ↓reduceIte, reduceCtorEq, Nat.reduceEqDiff, Nat.reduceLT, Nat.reduceLeDiff, Nat.reduceAdd, Nat.reduceMul, Nat.reduceSub, Nat.reduceBEq, Nat.reduceDiv, Int.reduceNeg, Int.reduceLT, Int.reduceLE, Int.reduceEq, Int.reduceToNat, Int.reduceAdd, Int.reduceSub, Int.reduceMul, Int.reduceBEq, Int.reduceBNe, reduceBEq]
  · simp only [go_sem, ↓reduceIte, reduceCtorEq, Nat.reduceEqDiff, Nat.reduceLT, Nat.reduceLeDiff, Nat.reduceAdd, Nat.reduceMul, Nat.reduceSub, Nat.reduceBEq, Nat.reduceDiv, Int.reduceNeg, Int.reduceLT, Int.reduceLE, Int.reduceEq, Int.reduceToNat, Int.reduceAdd, Int.reduceSub, Int.reduceMul, Int.reduceBEq, Int.reduceBNe, reduceBEq]
  · exact (((h.ag.setObj (by omega) _).killTok (by omega)).newTok _ _ _).setObj (by omega) _

theorem Rp.lay_length {p : Rp} (h : p.right) : p.lay.length = 7 + 40 * p.ps.length + 135 * p.is.length := by
  rw [Rp.lay, Rp.mid, List.length_append, List.length_append, List.length_append, Rp.hd_length, layPs_length h.p1, layIs_length h.i1, bigL_length]; omega
set_option maxHeartbeats 4000000 in
theorem readRep_spec (b : List UInt8) (hb : b.length < 2 ^ 47) (σ : Store) : ACalls Try.prog 20 [AV.bytes b] σ (fun x s => x = (if okRep b then AV.pe (readP b) 0 else AV.pe zrp 2) ∧ s = σ) := by
  refine ACalls.of_awpc Try.func20 c20_eq c20_n c20_rs (by simp) fun hwf => ?_
  unfold c20
  refine AWPc.step ?_
  simp only [go_sem, ↓reduceIte, reduceCtorEq, Nat.reduceEqDiff, Nat.reduceLT, Nat.reduceLeDiff, Nat.reduceAdd, Nat.reduceMul, Nat.reduceSub, Nat.reduceBEq, Nat.reduceDiv, Int.reduceNeg, Int.reduceLT, Int.reduceLE, Int.reduceEq, Int.reduceToNat, Int.reduceAdd, Int.reduceSub, Int.reduceMul, Int.reduceBEq, Int.reduceBNe, reduceBEq, c20_r0]
  refine AWPc.step ?_
  simp only [go_sem, ↓reduceIte, reduceCtorEq, Nat.reduceEqDiff, Nat.reduceLT, Nat.reduceLeDiff, Nat.reduceAdd, Nat.reduceMul, Nat.reduceSub, Nat.reduceBEq, Nat.reduceDiv, Int.reduceNeg, Int.reduceLT, Int.reduceLE, Int.reduceEq, Int.reduceToNat, Int.reduceAdd, Int.reduceSub, Int.reduceMul, Int.reduceBEq, Int.reduceBNe, reduceBEq, c20_r1]
  refine (clone_spec b (by omega) _).mono fun y s' hy => ?_
  obtain ⟨rfl, hs⟩ := hy
  have hs := hs.symm; subst hs
  simp only [go_sem, ↓reduceIte, reduceCtorEq, Nat.reduceEqDiff, Nat.reduceLT, Nat.reduceLeDiff, Nat.reduceAdd, Nat.reduceMul, Nat.reduceSub, Nat.reduceBEq, Nat.reduceDiv, Int.reduceNeg, Int.reduceLT, Int.reduceLE, Int.reduceEq, Int.reduceToNat, Int.reduceAdd, Int.reduceSub, Int.reduceMul, Int.reduceBEq, Int.reduceBNe, reduceBEq]
  refine AWPc.step ?_
  simp only [go_sem, ↓reduceIte, reduceCtorEq, Nat.reduceEqDiff, Nat.reduceLT, Nat.reduceLeDiff, Nat.reduceAdd, Nat.reduceMul, Nat.reduceSub, Nat.reduceBEq, Nat.reduceDiv, Int.reduceNeg, Int.reduceLT, Int.reduceLE, Int.reduceEq, Int.reduceToNat, Int.reduceAdd, Int.reduceSub, Int.reduceMul, Int.reduceBEq, Int.reduceBNe, reduceBEq, c20_r2]
  refine (numberS (σ.next + 1) (rp0 b) 1 hb (by omega) _ (by simp only [go_sem, ↓reduceIte, reduceCtorEq, Nat.reduceEqDiff, Nat.reduceLT, Nat.reduceLeDiff, Nat.reduceAdd, Nat.reduceMul, Nat.reduceSub, Nat.reduceBEq, Nat.reduceDiv, Int.reduceNeg, Int.reduceLT, Int.reduceLE, Int.reduceEq, Int.reduceToNat, Int.reduceAdd, Int.reduceSub, Int.reduceMul, Int.reduceBEq, Int.reduceBNe, reduceBEq]; rfl)).mono fun y s' hy => ?_
  obtain ⟨rfl, hs⟩ := hy
  rw [setN1] at hs
  have hs := hs.symm; subst hs
  simp only [go_sem, ↓reduceIte, reduceCtorEq, Nat.reduceEqDiff, Nat.reduceLT, Nat.reduceLeDiff, Nat.reduceAdd, Nat.reduceMul, Nat.reduceSub, Nat.reduceBEq, Nat.reduceDiv, Int.reduceNeg, Int.reduceLT, Int.reduceLE, Int.reduceEq, Int.reduceToNat, Int.reduceAdd, Int.reduceSub, Int.reduceMul, Int.reduceBEq, Int.reduceBNe, reduceBEq]
  refine (numberS (σ.next + 1) ((rp0 b).nx 1) 4 (RS.nx_lt hb) (by omega) _ (by simp only [go_sem, ↓reduceIte, reduceCtorEq, Nat.reduceEqDiff, Nat.reduceLT, Nat.reduceLeDiff, Nat.reduceAdd, Nat.reduceMul, Nat.reduceSub, Nat.reduceBEq, Nat.reduceDiv, Int.reduceNeg, Int.reduceLT, Int.reduceLE, Int.reduceEq, Int.reduceToNat, Int.reduceAdd, Int.reduceSub, Int.reduceMul, Int.reduceBEq, Int.reduceBNe, reduceBEq])).mono fun y s' hy => ?_
  obtain ⟨rfl, hs⟩ := hy
  rw [setN1] at hs
  have hs := hs.symm; subst hs
  simp only [go_sem, ↓reduceIte, reduceCtorEq, Nat.reduceEqDiff, Nat.reduceLT, Nat.reduceLeDiff, Nat.reduceAdd, Nat.reduceMul, Nat.reduceSub, Nat.reduceBEq, Nat.reduceDiv, Int.reduceNeg, Int.reduceLT, Int.reduceLE, Int.reduceEq, Int.reduceToNat, Int.reduceAdd, Int.reduceSub, Int.reduceMul, Int.reduceBEq, Int.reduceBNe, reduceBEq]
  refine AWPc.seq (AWPc.step ?_)
  simp only [go_sem, ↓reduceIte, reduceCtorEq, Nat.reduceEqDiff, Nat.reduceLT, Nat.reduceLeDiff, Nat.reduceAdd, Nat.reduceMul, Nat.reduceSub, Nat.reduceBEq, Nat.reduceDiv, Int.reduceNeg, Int.reduceLT, Int.reduceLE, Int.reduceEq, Int.reduceToNat, Int.reduceAdd, Int.reduceSub, Int.reduceMul, Int.reduceBEq, Int.reduceBNe, reduceBEq, c20_r3]
  refine (numberS (σ.next + 1) (((rp0 b).nx 1).nx 4) 1 (RS.nx_lt (RS.nx_lt hb)) (by omega) _ (by simp only [go_sem, ↓reduceIte, reduceCtorEq, Nat.reduceEqDiff, Nat.reduceLT, Nat.reduceLeDiff, Nat.reduceAdd, Nat.reduceMul, Nat.reduceSub, Nat.reduceBEq, Nat.reduceDiv, Int.reduceNeg, Int.reduceLT, Int.reduceLE, Int.reduceEq, Int.reduceToNat, Int.reduceAdd, Int.reduceSub, Int.reduceMul, Int.reduceBEq, Int.reduceBNe, reduceBEq])).mono fun y s' hy => ?_
  obtain ⟨rfl, rfl⟩ := hy
  simp only [go_sem, ↓reduceIte, reduceCtorEq, Nat.reduceEqDiff, Nat.reduceLT, Nat.reduceLeDiff, Nat.reduceAdd, Nat.reduceMul, Nat.reduceSub, Nat.reduceBEq, Nat.reduceDiv, Int.reduceNeg, Int.reduceLT, Int.reduceLE, Int.reduceEq, Int.reduceToNat, Int.reduceAdd, Int.reduceSub, Int.reduceMul, Int.reduceBEq, Int.reduceBNe, reduceBEq]
  refine AWPc.weak (Weak.fullObj (σ.next + 1 + 1) 2 (cs := [.int .i64 (numB (tk b 1)), .int .i64 (numB (tk ((rp0 b).nx 1).1 4)), .nil, .nil]) (by simp only [go_sem, ↓reduceIte, reduceCtorEq, Nat.reduceEqDiff, Nat.reduceLT, Nat.reduceLeDiff, Nat.reduceAdd, Nat.reduceMul, Nat.reduceSub, Nat.reduceBEq, Nat.reduceDiv, Int.reduceNeg, Int.reduceLT, Int.reduceLE, Int.reduceEq, Int.reduceToNat, Int.reduceAdd, Int.reduceSub, Int.reduceMul, Int.reduceBEq, Int.reduceBNe, reduceBEq]) rfl 49 4 (xs := []) rfl 0) ?_
  generalize hs0 : Store.setObj _ _ _ = s0
  have hI0 : RI σ s0 (rp3 b) [.int .i64 (numB (tk b 1)), .int .i64 (numB (tk ((rp0 b).nx 1).1 4)), .row (σ.next + 1 + 1 + 1) 4 (encP []), .nil] (σ.next + 1 + 1 + 1) 49 4 0 := by
    subst hs0
    refine ⟨?_, ?_, ?_, ?_, ?_, ?_, ?_⟩
    · simp only [go_sem, ↓reduceIte, reduceCtorEq, Nat.reduceEqDiff, Nat.reduceLT, Nat.reduceLeDiff, Nat.reduceAdd, Nat.reduceMul, Nat.reduceSub, Nat.reduceBEq, Nat.reduceDiv, Int.reduceNeg, Int.reduceLT, Int.reduceLE, Int.reduceEq, Int.reduceToNat, Int.reduceAdd, Int.reduceSub, Int.reduceMul, Int.reduceBEq, Int.reduceBNe, reduceBEq]
    · simp only [go_sem, ↓reduceIte, reduceCtorEq, Nat.reduceEqDiff, Nat.reduceLT, Nat.reduceLeDiff, Nat.reduceAdd, Nat.reduceMul, Nat.reduceSub, Nat.reduceBEq, Nat.reduceDiv, Int.reduceNeg, Int.reduceLT, Int.reduceLE, Int.reduceEq, Int.reduceToNat, Int.reduceAdd, Int.reduceSub, Int.reduceMul, Int.reduceBEq, Int.reduceBNe, reduceBEq]
    · simp only [go_sem, ↓reduceIte, reduceCtorEq, Nat.reduceEqDiff, Nat.reduceLT, Nat.reduceLeDiff, Nat.reduceAdd, Nat.reduceMul, Nat.reduceSub, Nat.reduceBEq, Nat.reduceDiv, Int.reduceNeg, Int.reduceLT, Int.reduceLE, Int.reduceEq, Int.reduceToNat, Int.reduceAdd, Int.reduceSub, Int.reduceMul, Int.reduceBEq, Int.reduceBNe, reduceBEq]; rfl
    · simp only [go_sem, ↓reduceIte, reduceCtorEq, Nat.reduceEqDiff, Nat.reduceLT, Nat.reduceLeDiff, Nat.reduceAdd, Nat.reduceMul, Nat.reduceSub, Nat.reduceBEq, Nat.reduceDiv, Int.reduceNeg, Int.reduceLT, Int.reduceLE, Int.reduceEq, Int.reduceToNat, Int.reduceAdd, Int.reduceSub, Int.reduceMul, Int.reduceBEq, Int.reduceBNe, reduceBEq]
    · omega
    · simp only [go_sem, ↓reduceIte, reduceCtorEq, Nat.reduceEqDiff, Nat.reduceLT, Nat.reduceLeDiff, Nat.reduceAdd, Nat.reduceMul, Nat.reduceSub, Nat.reduceBEq, Nat.reduceDiv, Int.reduceNeg, Int.reduceLT, Int.reduceLE, Int.reduceEq, Int.reduceToNat, Int.reduceAdd, Int.reduceSub, Int.reduceMul, Int.reduceBEq, Int.reduceBNe, reduceBEq]
    · exact (by repeat (first | exact Agree.refl _ | refine Agree.newObj ?_ _ | refine Agree.newTok ?_ _ _ _ | refine Agree.killTok ?_ (by first | omega | (simp only [go_sem] <;> omega)) | refine Agree.setObj ?_ (by first | omega | (simp only [go_sem] <;> omega)) _ | refine Agree.dropObj ?_ (by first | omega | (simp only [go_sem] <;> omega))))
  clear hs0
  refine AWPc.block (AWPc.loop (α := Nat × Store × Nat) (fun a => [(0, AV.bytes b), (2, .ptr σ.next 0), (4, .ptr (σ.next + 1) 0), (5, .ptr (σ.next + 1 + 1) 0), (18, .int .i64 (rpN b)), (19, .int .i64 a.1)]) (fun a => a.2.1)
    (fun a => a.1 ≤ rpN b ∧ RI σ a.2.1 (pcsSt a.1 (rp3 b)) [.int .i64 (numB (tk b 1)), .int .i64 (numB (tk ((rp0 b).nx 1).1 4)), .row a.2.2 4 (encP (pcs a.1 (rp3 b))), .nil] a.2.2 49 4 a.1) (fun a => rpN b - a.1)
    ⟨(0, s0, σ.next + 1 + 1 + 1), ⟨Nat.zero_le _, hI0⟩, Weak.slots (all_cons rfl (all_cons rfl (all_cons rfl (all_cons rfl (all_cons rfl (all_cons rfl all_nil))))))⟩ ?_)
  rintro ⟨i, s, t⟩ ⟨hi, hI⟩
  dsimp only at hi hI
  have hr : (pcsSt i (rp3 b)).1.length < 2 ^ 47 := pcsSt_lt (RS.nx_lt (RS.nx_lt (RS.nx_lt hb))) i
  have hN : rpN b ≤ 255 := numB_tk1 _
  have h0 := hI.o0
  have h1 := hI.o1
  have h2 := hI.o2
  have h3 := hI.tk
  by_cases hd : i < rpN b
  · have d1 : decide ((i : Int) < (rpN b : Nat)) = true := decide_eq_true (by omega)
    have hpl := pcs_length (rp3 b) i
    simp only [go_sem, ↓reduceIte, reduceCtorEq, Nat.reduceEqDiff, Nat.reduceLT, Nat.reduceLeDiff, Nat.reduceAdd, Nat.reduceMul, Nat.reduceSub, Nat.reduceBEq, Nat.reduceDiv, Int.reduceNeg, Int.reduceLT, Int.reduceLE, Int.reduceEq, Int.reduceToNat, Int.reduceAdd, Int.reduceSub, Int.reduceMul, Int.reduceBEq, Int.reduceBNe, reduceBEq, c20_l0, c20_r4, d1]
    refine awpDreg mixed [3, 5, 7, 9, 12, 14, 1014] (by kernel_rfl) (by kernel_rfl) fun ops1 => ?_
    simp only [go_sem, ↓reduceIte, reduceCtorEq, Nat.reduceEqDiff, Nat.reduceLT, Nat.reduceLeDiff, Nat.reduceAdd, Nat.reduceMul, Nat.reduceSub, Nat.reduceBEq, Nat.reduceDiv, Int.reduceNeg, Int.reduceLT, Int.reduceLE, Int.reduceEq, Int.reduceToNat, Int.reduceAdd, Int.reduceSub, Int.reduceMul, Int.reduceBEq, Int.reduceBNe, reduceBEq, c20_d5_ops, h1, h2]
    refine ⟨_, _, numberS (σ.next + 1) (pcsSt i (rp3 b)) 1 hr (by omega) _ h1, ?_⟩
    simp only [go_sem, ↓reduceIte, reduceCtorEq, Nat.reduceEqDiff, Nat.reduceLT, Nat.reduceLeDiff, Nat.reduceAdd, Nat.reduceMul, Nat.reduceSub, Nat.reduceBEq, Nat.reduceDiv, Int.reduceNeg, Int.reduceLT, Int.reduceLE, Int.reduceEq, Int.reduceToNat, Int.reduceAdd, Int.reduceSub, Int.reduceMul, Int.reduceBEq, Int.reduceBNe, reduceBEq, h1, h2]
    refine ⟨_, _, numberS (σ.next + 1) ((pcsSt i (rp3 b)).nx 1) 6 (RS.nx_lt hr) (by omega) _ (by simp only [go_sem, ↓reduceIte, reduceCtorEq, Nat.reduceEqDiff, Nat.reduceLT, Nat.reduceLeDiff, Nat.reduceAdd, Nat.reduceMul, Nat.reduceSub, Nat.reduceBEq, Nat.reduceDiv, Int.reduceNeg, Int.reduceLT, Int.reduceLE, Int.reduceEq, Int.reduceToNat, Int.reduceAdd, Int.reduceSub, Int.reduceMul, Int.reduceBEq, Int.reduceBNe, reduceBEq]), ?_⟩
    simp only [go_sem, ↓reduceIte, reduceCtorEq, Nat.reduceEqDiff, Nat.reduceLT, Nat.reduceLeDiff, Nat.reduceAdd, Nat.reduceMul, Nat.reduceSub, Nat.reduceBEq, Nat.reduceDiv, Int.reduceNeg, Int.reduceLT, Int.reduceLE, Int.reduceEq, Int.reduceToNat, Int.reduceAdd, Int.reduceSub, Int.reduceMul, Int.reduceBEq, Int.reduceBNe, reduceBEq, h1, h2, setObj_setObj]
    refine ⟨_, _, numberS (σ.next + 1) (((pcsSt i (rp3 b)).nx 1).nx 6) 1 (RS.nx_lt (RS.nx_lt hr)) (by omega) _ (by simp only [go_sem, ↓reduceIte, reduceCtorEq, Nat.reduceEqDiff, Nat.reduceLT, Nat.reduceLeDiff, Nat.reduceAdd, Nat.reduceMul, Nat.reduceSub, Nat.reduceBEq, Nat.reduceDiv, Int.reduceNeg, Int.reduceLT, Int.reduceLE, Int.reduceEq, Int.reduceToNat, Int.reduceAdd, Int.reduceSub, Int.reduceMul, Int.reduceBEq, Int.reduceBNe, reduceBEq]), ?_⟩
    simp only [go_sem, ↓reduceIte, reduceCtorEq, Nat.reduceEqDiff, Nat.reduceLT, Nat.reduceLeDiff, Nat.reduceAdd, Nat.reduceMul, Nat.reduceSub, Nat.reduceBEq, Nat.reduceDiv, Int.reduceNeg, Int.reduceLT, Int.reduceLE, Int.reduceEq, Int.reduceToNat, Int.reduceAdd, Int.reduceSub, Int.reduceMul, Int.reduceBEq, Int.reduceBNe, reduceBEq, h1, h2, setObj_setObj]
    refine ⟨_, _, takeS (σ.next + 1) ((((pcsSt i (rp3 b)).nx 1).nx 6).nx 1) 32 (RS.nx_lt (RS.nx_lt (RS.nx_lt hr))) _ (by simp only [go_sem, ↓reduceIte, reduceCtorEq, Nat.reduceEqDiff, Nat.reduceLT, Nat.reduceLeDiff, Nat.reduceAdd, Nat.reduceMul, Nat.reduceSub, Nat.reduceBEq, Nat.reduceDiv, Int.reduceNeg, Int.reduceLT, Int.reduceLE, Int.reduceEq, Int.reduceToNat, Int.reduceAdd, Int.reduceSub, Int.reduceMul, Int.reduceBEq, Int.reduceBNe, reduceBEq]), ?_⟩
    have e : encP (pcs i (rp3 b)) ++ [[PV.val (.int .i64 (numB (tk (pcsSt i (rp3 b)).1 1))), PV.val (.int .i64 (numB (tk ((pcsSt i (rp3 b)).nx 1).1 6))), PV.val (.int .i64 (numB (tk (((pcsSt i (rp3 b)).nx 1).nx 6).1 1))), PV.lst 1 (encB (tk ((((pcsSt i (rp3 b)).nx 1).nx 6).nx 1).1 32))]] = encP (pcs (i + 1) (rp3 b)) := encP_append _ (pcOf (pcsSt i (rp3 b)))
    simp only [go_sem, ↓reduceIte, reduceCtorEq, Nat.reduceEqDiff, Nat.reduceLT, Nat.reduceLeDiff, Nat.reduceAdd, Nat.reduceMul, Nat.reduceSub, Nat.reduceBEq, Nat.reduceDiv, Int.reduceNeg, Int.reduceLT, Int.reduceLE, Int.reduceEq, Int.reduceToNat, Int.reduceAdd, Int.reduceSub, Int.reduceMul, Int.reduceBEq, Int.reduceBNe, reduceBEq, maxLen, Nat.reducePow, h1, h2, h3, setObj_setObj, encP_length, hpl, c20_r6, e]
    refine ⟨⟨by omega, by omega⟩, ⟨i + 1, (((s.setObj (σ.next + 1) (pcsSt (i + 1) (rp3 b)).av).killTok t).newTok 49 4 (i + 1)).setObj (σ.next + 1 + 1) [.int .i64 (numB (tk b 1)), .int .i64 (numB (tk ((rp0 b).nx 1).1 4)), .row s.next 4 (encP (pcs (i + 1) (rp3 b))), .nil], s.next⟩, ⟨by dsimp only; omega, hI.step _ _ _⟩, by dsimp only; omega, ?_⟩
    refine Weak.slots' rfl (all_cons rfl (all_cons rfl (all_cons rfl (all_cons rfl (all_cons rfl (all_cons ?_ all_nil))))))
    simp only [go_sem, ↓reduceIte, reduceCtorEq, Nat.reduceEqDiff, Nat.reduceLT, Nat.reduceLeDiff, Nat.reduceAdd, Nat.reduceMul, Nat.reduceSub, Nat.reduceBEq, Nat.reduceDiv, Int.reduceNeg, Int.reduceLT, Int.reduceLE, Int.reduceEq, Int.reduceToNat, Int.reduceAdd, Int.reduceSub, Int.reduceMul, Int.reduceBEq, Int.reduceBNe, reduceBEq]
    rw [w64 (by omega) (by omega)]; rfl
  have hi : i = rpN b := by omega
  subst hi
  have d1 : decide (((rpN b : Nat) : Int) < (rpN b : Nat)) = false := decide_eq_false (by omega)
  simp only [go_sem, ↓reduceIte, reduceCtorEq, Nat.reduceEqDiff, Nat.reduceLT, Nat.reduceLeDiff, Nat.reduceAdd, Nat.reduceMul, Nat.reduceSub, Nat.reduceBEq, Nat.reduceDiv, Int.reduceNeg, Int.reduceLT, Int.reduceLE, Int.reduceEq, Int.reduceToNat, Int.reduceAdd, Int.reduceSub, Int.reduceMul, Int.reduceBEq, Int.reduceBNe, reduceBEq, c20_l0, c20_r4, d1]
  refine AWPc.seq (AWPc.step ?_)
  simp only [go_sem, ↓reduceIte, reduceCtorEq, Nat.reduceEqDiff, Nat.reduceLT, Nat.reduceLeDiff, Nat.reduceAdd, Nat.reduceMul, Nat.reduceSub, Nat.reduceBEq, Nat.reduceDiv, Int.reduceNeg, Int.reduceLT, Int.reduceLE, Int.reduceEq, Int.reduceToNat, Int.reduceAdd, Int.reduceSub, Int.reduceMul, Int.reduceBEq, Int.reduceBNe, reduceBEq, c20_r7]
  refine (numberS (σ.next + 1) (rp4 b) 1 hr (by omega) _ h1).mono fun y s' hy => ?_
  obtain ⟨rfl, rfl⟩ := hy
  simp only [go_sem, ↓reduceIte, reduceCtorEq, Nat.reduceEqDiff, Nat.reduceLT, Nat.reduceLeDiff, Nat.reduceAdd, Nat.reduceMul, Nat.reduceSub, Nat.reduceBEq, Nat.reduceDiv, Int.reduceNeg, Int.reduceLT, Int.reduceLE, Int.reduceEq, Int.reduceToNat, Int.reduceAdd, Int.reduceSub, Int.reduceMul, Int.reduceBEq, Int.reduceBNe, reduceBEq]
  have hge := hI.ge
  have hnx := hI.nx
  refine AWPc.weak (Weak.fullObj (σ.next + 1 + 1) 3 (cs := [.int .i64 (numB (tk b 1)), .int .i64 (numB (tk ((rp0 b).nx 1).1 4)), .row t 4 (encP (pcs (rpN b) (rp3 b))), .nil]) (by simp only [go_sem, ↓reduceIte, reduceCtorEq, Nat.reduceEqDiff, Nat.reduceLT, Nat.reduceLeDiff, Nat.reduceAdd, Nat.reduceMul, Nat.reduceSub, Nat.reduceBEq, Nat.reduceDiv, Int.reduceNeg, Int.reduceLT, Int.reduceLE, Int.reduceEq, Int.reduceToNat, Int.reduceAdd, Int.reduceSub, Int.reduceMul, Int.reduceBEq, Int.reduceBNe, reduceBEq, h2]) rfl 52 3 (xs := []) rfl 0) ?_
  generalize hs1 : Store.setObj (Store.newTok _ _ _ _) _ _ = s1
  have hI1 : RI σ s1 (rp5 b) [.int .i64 (numB (tk b 1)), .int .i64 (numB (tk ((rp0 b).nx 1).1 4)), .row t 4 (encP (pcs (rpN b) (rp3 b))), .row s.next 3 (encI [])] s.next 52 3 0 := by
    subst hs1
    refine ⟨?_, ?_, ?_, ?_, ?_, ?_, ?_⟩
    · simp only [go_sem, ↓reduceIte, reduceCtorEq, Nat.reduceEqDiff, Nat.reduceLT, Nat.reduceLeDiff, Nat.reduceAdd, Nat.reduceMul, Nat.reduceSub, Nat.reduceBEq, Nat.reduceDiv, Int.reduceNeg, Int.reduceLT, Int.reduceLE, Int.reduceEq, Int.reduceToNat, Int.reduceAdd, Int.reduceSub, Int.reduceMul, Int.reduceBEq, Int.reduceBNe, reduceBEq, h0]
    · simp only [go_sem, ↓reduceIte, reduceCtorEq, Nat.reduceEqDiff, Nat.reduceLT, Nat.reduceLeDiff, Nat.reduceAdd, Nat.reduceMul, Nat.reduceSub, Nat.reduceBEq, Nat.reduceDiv, Int.reduceNeg, Int.reduceLT, Int.reduceLE, Int.reduceEq, Int.reduceToNat, Int.reduceAdd, Int.reduceSub, Int.reduceMul, Int.reduceBEq, Int.reduceBNe, reduceBEq]
    · simp only [go_sem, ↓reduceIte, reduceCtorEq, Nat.reduceEqDiff, Nat.reduceLT, Nat.reduceLeDiff, Nat.reduceAdd, Nat.reduceMul, Nat.reduceSub, Nat.reduceBEq, Nat.reduceDiv, Int.reduceNeg, Int.reduceLT, Int.reduceLE, Int.reduceEq, Int.reduceToNat, Int.reduceAdd, Int.reduceSub, Int.reduceMul, Int.reduceBEq, Int.reduceBNe, reduceBEq]; rfl
    · simp only [go_sem, ↓reduceIte, reduceCtorEq, Nat.reduceEqDiff, Nat.reduceLT, Nat.reduceLeDiff, Nat.reduceAdd, Nat.reduceMul, Nat.reduceSub, Nat.reduceBEq, Nat.reduceDiv, Int.reduceNeg, Int.reduceLT, Int.reduceLE, Int.reduceEq, Int.reduceToNat, Int.reduceAdd, Int.reduceSub, Int.reduceMul, Int.reduceBEq, Int.reduceBNe, reduceBEq]
    · omega
    · simp only [go_sem, ↓reduceIte, reduceCtorEq, Nat.reduceEqDiff, Nat.reduceLT, Nat.reduceLeDiff, Nat.reduceAdd, Nat.reduceMul, Nat.reduceSub, Nat.reduceBEq, Nat.reduceDiv, Int.reduceNeg, Int.reduceLT, Int.reduceLE, Int.reduceEq, Int.reduceToNat, Int.reduceAdd, Int.reduceSub, Int.reduceMul, Int.reduceBEq, Int.reduceBNe, reduceBEq]
    · exact ((hI.ag.setObj (by omega) _).newTok _ _ _).setObj (by omega) _
  clear hs1
  refine AWPc.block (AWPc.loop (α := Nat × Store × Nat) (fun a => [(0, AV.bytes b), (2, .ptr σ.next 0), (4, .ptr (σ.next + 1) 0), (5, .ptr (σ.next + 1 + 1) 0), (37, .int .i64 (rpM b)), (38, .int .i64 a.1)]) (fun a => a.2.1)
    (fun a => a.1 ≤ rpM b ∧ RI σ a.2.1 (itsSt a.1 (rp5 b)) [.int .i64 (numB (tk b 1)), .int .i64 (numB (tk ((rp0 b).nx 1).1 4)), .row t 4 (encP (pcs (rpN b) (rp3 b))), .row a.2.2 3 (encI (its a.1 (rp5 b)))] a.2.2 52 3 a.1) (fun a => rpM b - a.1)
    ⟨(0, s1, s.next), ⟨Nat.zero_le _, hI1⟩, Weak.slots (all_cons rfl (all_cons rfl (all_cons rfl (all_cons rfl (all_cons rfl (all_cons rfl all_nil))))))⟩ ?_)
  have hN2 : rpM b ≤ 255 := numB_tk1 _
  clear hI1 h0 h1 h2 h3 hI
  clear s1
  rintro ⟨i, s', t'⟩ ⟨hi, hI⟩
  dsimp only at hi hI
  have hr : (itsSt i (rp5 b)).1.length < 2 ^ 47 := itsSt_lt (RS.nx_lt hr) i
  have h0 := hI.o0
  have h1 := hI.o1
  have h2 := hI.o2
  have h3 := hI.tk
  by_cases hd : i < rpM b
  · have d1 : decide ((i : Int) < (rpM b : Nat)) = true := decide_eq_true (by omega)
    have hpl := its_length (rp5 b) i
    simp only [go_sem, ↓reduceIte, reduceCtorEq, Nat.reduceEqDiff, Nat.reduceLT, Nat.reduceLeDiff, Nat.reduceAdd, Nat.reduceMul, Nat.reduceSub, Nat.reduceBEq, Nat.reduceDiv, Int.reduceNeg, Int.reduceLT, Int.reduceLE, Int.reduceEq, Int.reduceToNat, Int.reduceAdd, Int.reduceSub, Int.reduceMul, Int.reduceBEq, Int.reduceBNe, reduceBEq, c20_l1, c20_r8, d1]
    refine awpDreg mixed [3, 5, 7, 10, 12, 1012] (by kernel_rfl) (by kernel_rfl) fun ops1 => ?_
    simp only [go_sem, ↓reduceIte, reduceCtorEq, Nat.reduceEqDiff, Nat.reduceLT, Nat.reduceLeDiff, Nat.reduceAdd, Nat.reduceMul, Nat.reduceSub, Nat.reduceBEq, Nat.reduceDiv, Int.reduceNeg, Int.reduceLT, Int.reduceLE, Int.reduceEq, Int.reduceToNat, Int.reduceAdd, Int.reduceSub, Int.reduceMul, Int.reduceBEq, Int.reduceBNe, reduceBEq, c20_d9_ops, h1, h2]
    refine ⟨_, _, numberS (σ.next + 1) (itsSt i (rp5 b)) 1 hr (by omega) _ h1, ?_⟩
    simp only [go_sem, ↓reduceIte, reduceCtorEq, Nat.reduceEqDiff, Nat.reduceLT, Nat.reduceLeDiff, Nat.reduceAdd, Nat.reduceMul, Nat.reduceSub, Nat.reduceBEq, Nat.reduceDiv, Int.reduceNeg, Int.reduceLT, Int.reduceLE, Int.reduceEq, Int.reduceToNat, Int.reduceAdd, Int.reduceSub, Int.reduceMul, Int.reduceBEq, Int.reduceBNe, reduceBEq, h1, h2]
    refine ⟨_, _, numberS (σ.next + 1) ((itsSt i (rp5 b)).nx 1) 6 (RS.nx_lt hr) (by omega) _ (by simp only [go_sem, ↓reduceIte, reduceCtorEq, Nat.reduceEqDiff, Nat.reduceLT, Nat.reduceLeDiff, Nat.reduceAdd, Nat.reduceMul, Nat.reduceSub, Nat.reduceBEq, Nat.reduceDiv, Int.reduceNeg, Int.reduceLT, Int.reduceLE, Int.reduceEq, Int.reduceToNat, Int.reduceAdd, Int.reduceSub, Int.reduceMul, Int.reduceBEq, Int.reduceBNe, reduceBEq]), ?_⟩
    simp only [go_sem, ↓reduceIte, reduceCtorEq, Nat.reduceEqDiff, Nat.reduceLT, Nat.reduceLeDiff, Nat.reduceAdd, Nat.reduceMul, Nat.reduceSub, Nat.reduceBEq, Nat.reduceDiv, Int.reduceNeg, Int.reduceLT, Int.reduceLE, Int.reduceEq, Int.reduceToNat, Int.reduceAdd, Int.reduceSub, Int.reduceMul, Int.reduceBEq, Int.reduceBNe, reduceBEq, h1, h2, setObj_setObj]
    refine ⟨_, _, takeS (σ.next + 1) (((itsSt i (rp5 b)).nx 1).nx 6) 128 (RS.nx_lt (RS.nx_lt hr)) _ (by simp only [go_sem, ↓reduceIte, reduceCtorEq, Nat.reduceEqDiff, Nat.reduceLT, Nat.reduceLeDiff, Nat.reduceAdd, Nat.reduceMul, Nat.reduceSub, Nat.reduceBEq, Nat.reduceDiv, Int.reduceNeg, Int.reduceLT, Int.reduceLE, Int.reduceEq, Int.reduceToNat, Int.reduceAdd, Int.reduceSub, Int.reduceMul, Int.reduceBEq, Int.reduceBNe, reduceBEq]), ?_⟩
    have e : encI (its i (rp5 b)) ++ [[PV.val (.int .i64 (numB (tk (itsSt i (rp5 b)).1 1))), PV.val (.int .i64 (numB (tk ((itsSt i (rp5 b)).nx 1).1 6))), PV.lst 1 (encB (tk (((itsSt i (rp5 b)).nx 1).nx 6).1 128))]] = encI (its (i + 1) (rp5 b)) := encI_append _ (itOf (itsSt i (rp5 b)))
    simp only [go_sem, ↓reduceIte, reduceCtorEq, Nat.reduceEqDiff, Nat.reduceLT, Nat.reduceLeDiff, Nat.reduceAdd, Nat.reduceMul, Nat.reduceSub, Nat.reduceBEq, Nat.reduceDiv, Int.reduceNeg, Int.reduceLT, Int.reduceLE, Int.reduceEq, Int.reduceToNat, Int.reduceAdd, Int.reduceSub, Int.reduceMul, Int.reduceBEq, Int.reduceBNe, reduceBEq, maxLen, Nat.reducePow, h1, h2, h3, setObj_setObj, encI_length, hpl, c20_r10, e]
    refine ⟨⟨by omega, by omega⟩, ⟨i + 1, (((s'.setObj (σ.next + 1) (itsSt (i + 1) (rp5 b)).av).killTok t').newTok 52 3 (i + 1)).setObj (σ.next + 1 + 1) [.int .i64 (numB (tk b 1)), .int .i64 (numB (tk ((rp0 b).nx 1).1 4)), .row t 4 (encP (pcs (rpN b) (rp3 b))), .row s'.next 3 (encI (its (i + 1) (rp5 b)))], s'.next⟩, ⟨by dsimp only; omega, hI.step _ _ _⟩, by dsimp only; omega, ?_⟩
    refine Weak.slots' rfl (all_cons rfl (all_cons rfl (all_cons rfl (all_cons rfl (all_cons rfl (all_cons ?_ all_nil))))))
    simp only [go_sem, ↓reduceIte, reduceCtorEq, Nat.reduceEqDiff, Nat.reduceLT, Nat.reduceLeDiff, Nat.reduceAdd, Nat.reduceMul, Nat.reduceSub, Nat.reduceBEq, Nat.reduceDiv, Int.reduceNeg, Int.reduceLT, Int.reduceLE, Int.reduceEq, Int.reduceToNat, Int.reduceAdd, Int.reduceSub, Int.reduceMul, Int.reduceBEq, Int.reduceBNe, reduceBEq]
    rw [w64 (by omega) (by omega)]; rfl
  have hi : i = rpM b := by omega
  subst hi
  have d1 : decide (((rpM b : Nat) : Int) < (rpM b : Nat)) = false := decide_eq_false (by omega)
  have h1' : s'.objs (σ.next + 1) = some (rd (readPE b).1 (readPE b).2) := h1
  simp only [go_sem, ↓reduceIte, reduceCtorEq, Nat.reduceEqDiff, Nat.reduceLT, Nat.reduceLeDiff, Nat.reduceAdd, Nat.reduceMul, Nat.reduceSub, Nat.reduceBEq, Nat.reduceDiv, Int.reduceNeg, Int.reduceLT, Int.reduceLE, Int.reduceEq, Int.reduceToNat, Int.reduceAdd, Int.reduceSub, Int.reduceMul, Int.reduceBEq, Int.reduceBNe, reduceBEq, c20_l1, c20_r8, d1]
  refine AWPc.seq (AWPc.step ?_)
  simp only [go_sem, ↓reduceIte, reduceCtorEq, Nat.reduceEqDiff, Nat.reduceLT, Nat.reduceLeDiff, Nat.reduceAdd, Nat.reduceMul, Nat.reduceSub, Nat.reduceBEq, Nat.reduceDiv, Int.reduceNeg, Int.reduceLT, Int.reduceLE, Int.reduceEq, Int.reduceToNat, Int.reduceAdd, Int.reduceSub, Int.reduceMul, Int.reduceBEq, Int.reduceBNe, reduceBEq, c20_r11, h2]
  refine (ACalls.le1 (Le.agg4 (.refl _) (.refl _) (Le.list (es := 4) rfl) (Le.list (es := 3) rfl)) (layRep_spec (readP b) (by rw [show (readP b).ps = pcs (rpN b) (rp3 b) from rfl, pcs_length]; omega) (by rw [show (readP b).is = its (rpM b) (rp5 b) from rfl, its_length]; omega) _)).mono fun y s2 hy => ?_
  obtain ⟨rfl, hs⟩ := hy
  have hs := hs.symm; subst hs
  have hzz : Le (.tup [.agg [.int .i64 0, .int .i64 0, .nil, .nil], .int .i64 2]) (AV.pe zrp 2) := Le.tup2 (Le.agg4 (.refl _) (.refl _) (Le.nil 4) (Le.nil 3)) (.refl _)
  have hzA : Agree σ (s'.setObj σ.next [.int .i64 0, .int .i64 0, .nil, .nil]) := hI.ag.setObj (Nat.le_refl _) _
  by_cases hright : (readP b).right
  case neg =>
    rw [if_neg hright]
    have hno : ¬ okRep b := fun h => hright h.1
    simp only [go_sem, ↓reduceIte, reduceCtorEq, Nat.reduceEqDiff, Nat.reduceLT, Nat.reduceLeDiff, Nat.reduceAdd, Nat.reduceMul, Nat.reduceSub, Nat.reduceBEq, Nat.reduceDiv, Int.reduceNeg, Int.reduceLT, Int.reduceLE, Int.reduceEq, Int.reduceToNat, Int.reduceAdd, Int.reduceSub, Int.reduceMul, Int.reduceBEq, Int.reduceBNe, reduceBEq]
    refine AWPc.of_arun ?_
    cases hl : (readPE b).2 with
    | true =>
      simp only [go_sem, ↓reduceIte, reduceCtorEq, Nat.reduceEqDiff, Nat.reduceLT, Nat.reduceLeDiff, Nat.reduceAdd, Nat.reduceMul, Nat.reduceSub, Nat.reduceBEq, Nat.reduceDiv, Int.reduceNeg, Int.reduceLT, Int.reduceLE, Int.reduceEq, Int.reduceToNat, Int.reduceAdd, Int.reduceSub, Int.reduceMul, Int.reduceBEq, Int.reduceBNe, reduceBEq, c20_r12, h1', hl, h0, c20_r13]
      exact ⟨_, AV.pe zrp 2, _, rfl, WeakV.none hwf hzA (LeR.of_le hzz (by simp)), by rw [if_neg hno], rfl⟩
    | false =>
      simp only [go_sem, ↓reduceIte, reduceCtorEq, Nat.reduceEqDiff, Nat.reduceLT, Nat.reduceLeDiff, Nat.reduceAdd, Nat.reduceMul, Nat.reduceSub, Nat.reduceBEq, Nat.reduceDiv, Int.reduceNeg, Int.reduceLT, Int.reduceLE, Int.reduceEq, Int.reduceToNat, Int.reduceAdd, Int.reduceSub, Int.reduceMul, Int.reduceBEq, Int.reduceBNe, reduceBEq, c20_r12, h1', hl, h0, c20_r13, (by decide : ((1 : Int) != 0) = true)]
      exact ⟨_, AV.pe zrp 2, _, rfl, WeakV.none hwf hzA (LeR.of_le hzz (by simp)), by rw [if_neg hno], rfl⟩
  rw [if_pos hright]
  simp only [go_sem, ↓reduceIte, reduceCtorEq, Nat.reduceEqDiff, Nat.reduceLT, Nat.reduceLeDiff, Nat.reduceAdd, Nat.reduceMul, Nat.reduceSub, Nat.reduceBEq, Nat.reduceDiv, Int.reduceNeg, Int.reduceLT, Int.reduceLE, Int.reduceEq, Int.reduceToNat, Int.reduceAdd, Int.reduceSub, Int.reduceMul, Int.reduceBEq, Int.reduceBNe, reduceBEq]
  refine AWPc.of_arun ?_
  cases hl : (readPE b).2 with
  | true =>
    have hno : ¬ okRep b := fun h => by rw [okRep_whole h] at hl; cases hl
    simp only [go_sem, ↓reduceIte, reduceCtorEq, Nat.reduceEqDiff, Nat.reduceLT, Nat.reduceLeDiff, Nat.reduceAdd, Nat.reduceMul, Nat.reduceSub, Nat.reduceBEq, Nat.reduceDiv, Int.reduceNeg, Int.reduceLT, Int.reduceLE, Int.reduceEq, Int.reduceToNat, Int.reduceAdd, Int.reduceSub, Int.reduceMul, Int.reduceBEq, Int.reduceBNe, reduceBEq, c20_r12, h1', hl, h0, c20_r13]
    exact ⟨_, AV.pe zrp 2, _, rfl, WeakV.none hwf hzA (LeR.of_le hzz (by simp)), by rw [if_neg hno], rfl⟩
  | false =>
    simp only [go_sem, ↓reduceIte, reduceCtorEq, Nat.reduceEqDiff, Nat.reduceLT, Nat.reduceLeDiff, Nat.reduceAdd, Nat.reduceMul, Nat.reduceSub, Nat.reduceBEq, Nat.reduceDiv, Int.reduceNeg, Int.reduceLT, Int.reduceLE, Int.reduceEq, Int.reduceToNat, Int.reduceAdd, Int.reduceSub, Int.reduceMul, Int.reduceBEq, Int.reduceBNe, reduceBEq, c20_r12, h1', hl, (by decide : ((0 : Int) != 0) = false)]
    refine (equal_spec (readP b).lay b (by rw [Rp.lay_length hright]; have := hright.p2; have := hright.i2; omega) _).mono fun y s2 hy => ?_
    obtain ⟨rfl, hs⟩ := hy
    have hs := hs.symm; subst hs
    by_cases he : (readP b).lay = b
    · have d2 : decide ((readP b).lay = b) = true := decide_eq_true he
      simp only [go_sem, ↓reduceIte, reduceCtorEq, Nat.reduceEqDiff, Nat.reduceLT, Nat.reduceLeDiff, Nat.reduceAdd, Nat.reduceMul, Nat.reduceSub, Nat.reduceBEq, Nat.reduceDiv, Int.reduceNeg, Int.reduceLT, Int.reduceLE, Int.reduceEq, Int.reduceToNat, Int.reduceAdd, Int.reduceSub, Int.reduceMul, Int.reduceBEq, Int.reduceBNe, reduceBEq, d2]
      refine AWPc.of_arun ?_
      simp only [go_sem, ↓reduceIte, reduceCtorEq, Nat.reduceEqDiff, Nat.reduceLT, Nat.reduceLeDiff, Nat.reduceAdd, Nat.reduceMul, Nat.reduceSub, Nat.reduceBEq, Nat.reduceDiv, Int.reduceNeg, Int.reduceLT, Int.reduceLE, Int.reduceEq, Int.reduceToNat, Int.reduceAdd, Int.reduceSub, Int.reduceMul, Int.reduceBEq, Int.reduceBNe, reduceBEq, c20_r14, h2, h0]
      exact ⟨_, AV.pe (readP b) 0, _, rfl, WeakV.none hwf (hI.ag.setObj (Nat.le_refl _) _) (LeR.of_le (Le.tup2 (Le.agg4 (.refl _) (.refl _) (Le.list (es := 4) rfl) (Le.list (es := 3) rfl)) (.refl _)) (by simp)), by rw [if_pos ⟨hright, he⟩], rfl⟩
    · have d2 : decide ((readP b).lay = b) = false := decide_eq_false he
      simp only [go_sem, ↓reduceIte, reduceCtorEq, Nat.reduceEqDiff, Nat.reduceLT, Nat.reduceLeDiff, Nat.reduceAdd, Nat.reduceMul, Nat.reduceSub, Nat.reduceBEq, Nat.reduceDiv, Int.reduceNeg, Int.reduceLT, Int.reduceLE, Int.reduceEq, Int.reduceToNat, Int.reduceAdd, Int.reduceSub, Int.reduceMul, Int.reduceBEq, Int.reduceBNe, reduceBEq, d2, c20_r13, h0]
      exact ⟨_, AV.pe zrp 2, _, rfl, WeakV.none hwf hzA (LeR.of_le hzz (by simp)), by rw [if_neg (fun h : okRep b => he h.2)], rfl⟩
end Go.Proofs.Ytnanpamfdjnomaa
