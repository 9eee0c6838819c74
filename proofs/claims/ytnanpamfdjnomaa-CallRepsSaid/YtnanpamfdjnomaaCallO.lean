/- call: CallSizes, its replies. -/
import Derived.Test.YtnanpamfdjnomaaCallN
namespace Go.Proofs.Ytnanpamfdjnomaa
open Go Go.RowKit Go.Proofs.Ytnanpamfdjnomaa.AL
set_option maxRecDepth 100000
set_option linter.unusedSimpArgs false

/-- An object with a row in it that is appended to. -/
structure PI (σ s : Store) (P : Nat) (cells : List AV) (t : Nat) (e : TypeId) (es m : Nat) : Prop where
  o : s.objs P = some cells
  tk : s.toks t = some (e, es, m)
  pl : σ.next ≤ P
  ge : P < t
  nx : t < s.next
  ag : Agree σ s
theorem PI.step {σ s : Store} {P : Nat} {cells : List AV} {t : Nat} {e : TypeId} {es m : Nat} (h : PI σ s P cells t e es m) (cells' : List AV) (m' : Nat) :
    PI σ (((s.killTok t).newTok e es m').setObj P cells') P cells' s.next e es m' := by
  have h1 := h.ge
  have h2 := h.nx
  have h3 := h.pl
  refine ⟨?_, ?_, h3, by omega, by simp only [go_sem], ?_⟩
  · simp only [go_sem, ↓reduceIte, reduceCtorEq, Nat.reduceEqDiff, Nat.reduceLT, Nat.reduceLeDiff, Nat.reduceAdd, Nat.reduceMul, Nat.reduceSub, Nat.reduceBEq, Nat.reduceDiv, Int.reduceNeg, Int.reduceLT, Int.reduceLE, Int.reduceEq, Int.reduceToNat, Int.reduceAdd, Int.reduceSub, Int.reduceMul, Int.reduceBEq, Int.reduceBNe, reduceBEq]
  · simp only [go_sem, ↓reduceIte, reduceCtorEq, Nat.reduceEqDiff, Nat.reduceLT, Nat.reduceLeDiff, Nat.reduceAdd, Nat.reduceMul, Nat.reduceSub, Nat.reduceBEq, Nat.reduceDiv, Int.reduceNeg, Int.reduceLT, Int.reduceLE, Int.reduceEq, Int.reduceToNat, Int.reduceAdd, Int.reduceSub, Int.reduceMul, Int.reduceBEq, Int.reduceBNe, reduceBEq]
  · exact ((h.ag.killTok (by omega)).newTok _ _ _).setObj h3 _

theorem pick0 : pick 0 24 = 0 := by decide
def szP (sd : Int) (n : Nat) : List Pc := (List.range n).map fun (k : Nat) => pcHand sd k k sd 0
def szI (sd : Int) (n : Nat) : List It := (List.range n).map fun (k : Nat) => itHand k k (W (sd + k)) 0
theorem szP_length (sd : Int) (n : Nat) : (szP sd n).length = n := by simp [szP]
theorem szI_length (sd : Int) (n : Nat) : (szI sd n).length = n := by simp [szI]
theorem szP_snoc (sd : Int) (n : Nat) : szP sd (n + 1) = szP sd n ++ [pcHand sd n n sd 0] := by simp [szP, List.range_succ]
theorem szI_snoc (sd : Int) (n : Nat) : szI sd (n + 1) = szI sd n ++ [itHand n n (W (sd + n)) 0] := by simp [szI, List.range_succ]
theorem W_small {n : Int} (h0 : 0 ≤ n) (h : n < 4611686018427387904) : W n = n := w64 (by omega) (by omega)
theorem pcHand0_right (st gn ix sd : Int) : (pcHand st gn ix sd 0).right := by
  have h1 := pick_lt st 40 (by omega) (by omega)
  have h2 := pick_lt gn 9 (by omega) (by omega)
  have h3 := pick_lt ix 6 (by omega) (by omega)
  have h4 := hbytes_length sd 32
  have h5 : W (1 + pick gn 9) = 1 + pick gn 9 := W_small (by omega) (by omega)
  unfold pcHand
  rw [pick0, if_neg (by omega), if_neg (by omega), if_neg (by omega), if_neg (by omega), if_neg (by omega)]
  exact ⟨by dsimp only; omega, by dsimp only; omega, by dsimp only; omega, by dsimp only; omega, by dsimp only; omega, by dsimp only; omega, h4⟩
theorem itHand0_right (st gn sd : Int) : (itHand st gn sd 0).right := by
  have h1 := pick_lt st 40 (by omega) (by omega)
  have h2 := pick_lt gn 9 (by omega) (by omega)
  have h4 := hbytes_length sd 128
  have h5 : W (1 + pick gn 9) = 1 + pick gn 9 := W_small (by omega) (by omega)
  unfold itHand
  rw [pick0, if_neg (by omega), if_neg (by omega), if_neg (by omega), if_neg (by omega)]
  exact ⟨by dsimp only; omega, by dsimp only; omega, by dsimp only; omega, by dsimp only; omega, h4⟩
def szR (sd : Int) (m n : Nat) : Rp := ⟨0, 0, szP sd m, szI sd n⟩
theorem szR_right (sd : Int) {m n : Nat} (hm : m ≤ 2) (hn : n ≤ 16) : (szR sd m n).right := by
  refine ⟨fun x hx => ?_, fun x hx => ?_, by simp [szR], by simp [szR], by simp [szR], by simp [szR], by rw [szR, szP_length]; exact hm, by rw [szR, szI_length]; exact hn⟩
  · obtain ⟨k, _, rfl⟩ := List.mem_map.1 hx
    exact pcHand0_right _ _ _ _
  · obtain ⟨k, _, rfl⟩ := List.mem_map.1 hx
    exact itHand0_right _ _ _

abbrev szE (pc it sd : Int) (mo : UInt8) : Env := [(1, .int .i64 pc), (2, .int .i64 it), (3, .int .i64 sd), (4, .int .u8 (mo.toNat : Int))]
abbrev szPost (σ : Store) : Exit → Env → Store → Prop := fun e env' σ' => (e = Exit.normal ∨ e = Exit.ret) ∧ ∃ y y' σ'', env'.get 10 = y ∧ WeakV σ.next y σ' y' σ'' ∧ y' = AV.bool true ∧ σ'' = σ

/-- Behind the loops. -/
theorem sizes_c (sd : Int) (m n : Nat) (hm : m ≤ 2) (hn : n ≤ 16) (mo : UInt8) (σ s : Store) (hwf : σ.Wf) (P t t' : Nat) (ha : Agree σ s)
    (ho : s.objs P = some [.int .i64 0, .int .i64 0, .row t 4 (encP (szP sd m)), .row t' 3 (encI (szI sd n))]) (hPn : P < s.next) :
    AWPc Try.prog 169 σ.next (.seq (.reg c5_r19) (.seq (.seq (.reg c5_r20) (.cond (.tmp 129) (.seq (.reg c5_r21) .ret) .skip)) (.seq (.reg c5_r22) (.seq (.reg c5_r23) (.seq (.reg c5_r24) (.seq (.reg c5_r25) .ret))))))
      [(18, .ptr P 0), (4, .int .u8 (mo.toNat : Int))] s (szPost σ) := by
  have hr := szR_right sd hm hn
  have hlp := szP_length sd m
  have hli := szI_length sd n
  have hll := Rp.lay_length hr
  have hll' : (szR sd m n).lay.length = 7 + 40 * m + 135 * n := by rw [hll, szR, hlp, hli]
  have e1 : IntKind.i64.wrap (40 * (m : Int)) = 40 * m := W_small (by omega) (by omega)
  have e2 : IntKind.i64.wrap (7 + 40 * (m : Int)) = 7 + 40 * m := W_small (by omega) (by omega)
  have e3 : IntKind.i64.wrap (135 * (n : Int)) = 135 * n := W_small (by omega) (by omega)
  have e4 : IntKind.i64.wrap (7 + 40 * (m : Int) + 135 * n) = 7 + 40 * m + 135 * n := W_small (by omega) (by omega)
  have d1 : ((((szR sd m n).lay.length : Nat) : Int) != 7 + 40 * (m : Int) + 135 * n) = false := by rw [hll']; simp
  refine AWPc.step ?_
  simp only [go_sem, ↓reduceIte, reduceCtorEq, Nat.reduceEqDiff, Nat.reduceLT, Nat.reduceLeDiff, Nat.reduceAdd, Nat.reduceMul, Nat.reduceSub, Nat.reduceBEq, Nat.reduceDiv, Int.reduceNeg, Int.reduceLT, Int.reduceLE, Int.reduceEq, Int.reduceToNat, Int.reduceAdd, Int.reduceSub, Int.reduceMul, Int.reduceBEq, Int.reduceBNe, reduceBEq, c5_r19, ho]
  refine (ACalls.le1 (Le.agg4 (.refl _) (.refl _) (Le.list (es := 4) rfl) (Le.list (es := 3) rfl)) (layRep_spec (szR sd m n) (by rw [szR, hlp]; omega) (by rw [szR, hli]; omega) _)).mono fun y s' hy => ?_
  rw [if_pos hr] at hy
  obtain ⟨rfl, hs⟩ := hy
  have hs := hs.symm; subst hs
  simp only [go_sem, ↓reduceIte, reduceCtorEq, Nat.reduceEqDiff, Nat.reduceLT, Nat.reduceLeDiff, Nat.reduceAdd, Nat.reduceMul, Nat.reduceSub, Nat.reduceBEq, Nat.reduceDiv, Int.reduceNeg, Int.reduceLT, Int.reduceLE, Int.reduceEq, Int.reduceToNat, Int.reduceAdd, Int.reduceSub, Int.reduceMul, Int.reduceBEq, Int.reduceBNe, reduceBEq]
  refine AWPc.step ?_
  simp only [go_sem, ↓reduceIte, reduceCtorEq, Nat.reduceEqDiff, Nat.reduceLT, Nat.reduceLeDiff, Nat.reduceAdd, Nat.reduceMul, Nat.reduceSub, Nat.reduceBEq, Nat.reduceDiv, Int.reduceNeg, Int.reduceLT, Int.reduceLE, Int.reduceEq, Int.reduceToNat, Int.reduceAdd, Int.reduceSub, Int.reduceMul, Int.reduceBEq, Int.reduceBNe, reduceBEq, c5_r20, ho, encP_length, encI_length, hlp, hli, encB_length, (by decide : ((0 : Int) != 0) = false), e1, e2, e3, e4, d1]
  refine AWPc.step ?_
  have e5 : IntKind.i64.wrap ((((szR sd m n).lay.length : Nat) : Int) - 1) = (((szR sd m n).lay.length - 1 : Nat) : Int) := by rw [w64 (by omega) (by omega)]; omega
  simp only [go_sem, ↓reduceIte, reduceCtorEq, Nat.reduceEqDiff, Nat.reduceLT, Nat.reduceLeDiff, Nat.reduceAdd, Nat.reduceMul, Nat.reduceSub, Nat.reduceBEq, Nat.reduceDiv, Int.reduceNeg, Int.reduceLT, Int.reduceLE, Int.reduceEq, Int.reduceToNat, Int.reduceAdd, Int.reduceSub, Int.reduceMul, Int.reduceBEq, Int.reduceBNe, reduceBEq, c5_r22, encB_length, e5, Int.toNat_natCast, encB_take]
  refine ⟨by omega, (readRep_spec ((szR sd m n).lay.take ((szR sd m n).lay.length - 1)) (by rw [List.length_take]; omega) _).mono fun y s' hy => ?_⟩
  rw [if_neg (okRep_short hr (by omega))] at hy
  obtain ⟨rfl, hs⟩ := hy
  have hs := hs.symm; subst hs
  simp only [go_sem, ↓reduceIte, reduceCtorEq, Nat.reduceEqDiff, Nat.reduceLT, Nat.reduceLeDiff, Nat.reduceAdd, Nat.reduceMul, Nat.reduceSub, Nat.reduceBEq, Nat.reduceDiv, Int.reduceNeg, Int.reduceLT, Int.reduceLE, Int.reduceEq, Int.reduceToNat, Int.reduceAdd, Int.reduceSub, Int.reduceMul, Int.reduceBEq, Int.reduceBNe, reduceBEq]
  refine AWPc.step ?_
  simp only [go_sem, ↓reduceIte, reduceCtorEq, Nat.reduceEqDiff, Nat.reduceLT, Nat.reduceLeDiff, Nat.reduceAdd, Nat.reduceMul, Nat.reduceSub, Nat.reduceBEq, Nat.reduceDiv, Int.reduceNeg, Int.reduceLT, Int.reduceLE, Int.reduceEq, Int.reduceToNat, Int.reduceAdd, Int.reduceSub, Int.reduceMul, Int.reduceBEq, Int.reduceBNe, reduceBEq, maxLen, Nat.reducePow, c5_r23, encB_one, encB_append, encB_length]
  refine ⟨by omega, by omega, (ACalls.le1 (Le.list (es := 1) rfl) (readRep_spec ((szR sd m n).lay ++ [mo]) (by rw [List.length_append, List.length_singleton]; omega) _)).mono fun y s' hy => ?_⟩
  rw [if_neg (okRep_long hr mo)] at hy
  obtain ⟨rfl, hs⟩ := hy
  have hs := hs.symm; subst hs
  simp only [go_sem, ↓reduceIte, reduceCtorEq, Nat.reduceEqDiff, Nat.reduceLT, Nat.reduceLeDiff, Nat.reduceAdd, Nat.reduceMul, Nat.reduceSub, Nat.reduceBEq, Nat.reduceDiv, Int.reduceNeg, Int.reduceLT, Int.reduceLE, Int.reduceEq, Int.reduceToNat, Int.reduceAdd, Int.reduceSub, Int.reduceMul, Int.reduceBEq, Int.reduceBNe, reduceBEq]
  refine AWPc.step ?_
  simp only [go_sem, ↓reduceIte, reduceCtorEq, Nat.reduceEqDiff, Nat.reduceLT, Nat.reduceLeDiff, Nat.reduceAdd, Nat.reduceMul, Nat.reduceSub, Nat.reduceBEq, Nat.reduceDiv, Int.reduceNeg, Int.reduceLT, Int.reduceLE, Int.reduceEq, Int.reduceToNat, Int.reduceAdd, Int.reduceSub, Int.reduceMul, Int.reduceBEq, Int.reduceBNe, reduceBEq, c5_r24]
  refine (readRep_spec (szR sd m n).lay (by omega) _).mono fun y s' hy => ?_
  rw [if_pos (okRep_lay hr), (readP_lay hr).1] at hy
  obtain ⟨rfl, hs⟩ := hy
  have hs := hs.symm; subst hs
  simp only [go_sem, ↓reduceIte, reduceCtorEq, Nat.reduceEqDiff, Nat.reduceLT, Nat.reduceLeDiff, Nat.reduceAdd, Nat.reduceMul, Nat.reduceSub, Nat.reduceBEq, Nat.reduceDiv, Int.reduceNeg, Int.reduceLT, Int.reduceLE, Int.reduceEq, Int.reduceToNat, Int.reduceAdd, Int.reduceSub, Int.reduceMul, Int.reduceBEq, Int.reduceBNe, reduceBEq]
  refine AWPc.of_arun ?_
  have n0 : (P = s.next) = False := eq_false (by omega)
  have n1 : (P = s.next + 1) = False := eq_false (by omega)
  have n2 : (P = s.next + 1 + 1) = False := eq_false (by omega)
  have n3 : (P = s.next + 1 + 1 + 1) = False := eq_false (by omega)
  have n4 : (P = s.next + 1 + 1 + 1 + 1) = False := eq_false (by omega)
  simp only [go_sem, ↓reduceIte, reduceCtorEq, Nat.reduceEqDiff, Nat.reduceLT, Nat.reduceLeDiff, Nat.reduceAdd, Nat.reduceMul, Nat.reduceSub, Nat.reduceBEq, Nat.reduceDiv, Int.reduceNeg, Int.reduceLT, Int.reduceLE, Int.reduceEq, Int.reduceToNat, Int.reduceAdd, Int.reduceSub, Int.reduceMul, Int.reduceBEq, Int.reduceBNe, reduceBEq, c5_r25, ho, n0, n1, n2, n3, n4, (by decide : ((2 : Int) == 2) = true), (by decide : ((0 : Int) == 0) = true)]
  refine (ACalls.le2 (Le.agg4 (.refl _) (.refl _) (Le.list (es := 4) rfl) (Le.list (es := 3) rfl)) (.refl _) (rSameRep (szR sd m n) (szR sd m n) (by rw [szR, hlp]; omega) (by rw [szR, hli]; omega) _)).mono fun y s' hy => ?_
  obtain ⟨rfl, hs⟩ := hy
  have hs := hs.symm; subst hs
  have e7 : decide (szR sd m n = szR sd m n) = true := by simp
  simp only [go_sem, ↓reduceIte, reduceCtorEq, Nat.reduceEqDiff, Nat.reduceLT, Nat.reduceLeDiff, Nat.reduceAdd, Nat.reduceMul, Nat.reduceSub, Nat.reduceBEq, Nat.reduceDiv, Int.reduceNeg, Int.reduceLT, Int.reduceLE, Int.reduceEq, Int.reduceToNat, Int.reduceAdd, Int.reduceSub, Int.reduceMul, Int.reduceBEq, Int.reduceBNe, reduceBEq, e7]
  exact ⟨.inr rfl, _, _, _, rfl, WeakV.none hwf (ha.trans (by repeat (first | exact Agree.refl _ | refine Agree.newObj ?_ _ | refine Agree.newTok ?_ _ _ _ | refine Agree.killTok ?_ (by first | omega | (simp only [go_sem] <;> omega)) | refine Agree.setObj ?_ (by first | omega | (simp only [go_sem] <;> omega)) _ | refine Agree.dropObj ?_ (by first | omega | (simp only [go_sem] <;> omega))))) (.pv _ _ _), rfl, rfl⟩

theorem sizes_b (pc it sd : Int) (mo : UInt8) (σ s : Store) (hwf : σ.Wf) (ha : Agree σ s) :
    AWPc Try.prog 169 σ.next (.seq (.reg c5_r10) (.seq (.seq (.reg c5_r11) (.block 0 (.loop c5_l0))) (.seq (.seq (.reg c5_r15) (.block 2 (.loop c5_l1))) (.seq (.reg c5_r19) (.seq (.seq (.reg c5_r20) (.cond (.tmp 129) (.seq (.reg c5_r21) .ret) .skip)) (.seq (.reg c5_r22) (.seq (.reg c5_r23) (.seq (.reg c5_r24) (.seq (.reg c5_r25) .ret)))))))))
      (szE pc it sd mo) s (szPost σ) := by
  obtain ⟨np, enp, hnp⟩ := pick_nat pc 3 (by omega) (by omega)
  obtain ⟨ni, eni, hni⟩ := pick_nat it 17 (by omega) (by omega)
  rw [show ((3 : Nat) : Int) = 3 from rfl] at enp
  rw [show ((17 : Nat) : Int) = 17 from rfl] at eni
  refine AWPc.step ?_
  simp only [go_sem, ↓reduceIte, reduceCtorEq, Nat.reduceEqDiff, Nat.reduceLT, Nat.reduceLeDiff, Nat.reduceAdd, Nat.reduceMul, Nat.reduceSub, Nat.reduceBEq, Nat.reduceDiv, Int.reduceNeg, Int.reduceLT, Int.reduceLE, Int.reduceEq, Int.reduceToNat, Int.reduceAdd, Int.reduceSub, Int.reduceMul, Int.reduceBEq, Int.reduceBNe, reduceBEq, c5_r10]
  refine AWPc.seq (AWPc.step ?_)
  simp only [go_sem, ↓reduceIte, reduceCtorEq, Nat.reduceEqDiff, Nat.reduceLT, Nat.reduceLeDiff, Nat.reduceAdd, Nat.reduceMul, Nat.reduceSub, Nat.reduceBEq, Nat.reduceDiv, Int.reduceNeg, Int.reduceLT, Int.reduceLE, Int.reduceEq, Int.reduceToNat, Int.reduceAdd, Int.reduceSub, Int.reduceMul, Int.reduceBEq, Int.reduceBNe, reduceBEq, c5_r11]
  refine AWPc.weak (Weak.fullObj s.next 2 (cs := [.int .i64 0, .int .i64 0, .nil, .nil]) (by simp only [go_sem, ↓reduceIte, reduceCtorEq, Nat.reduceEqDiff, Nat.reduceLT, Nat.reduceLeDiff, Nat.reduceAdd, Nat.reduceMul, Nat.reduceSub, Nat.reduceBEq, Nat.reduceDiv, Int.reduceNeg, Int.reduceLT, Int.reduceLE, Int.reduceEq, Int.reduceToNat, Int.reduceAdd, Int.reduceSub, Int.reduceMul, Int.reduceBEq, Int.reduceBNe, reduceBEq]) rfl 49 4 (xs := []) rfl 0) ?_
  have hP : σ.next ≤ s.next := ha.next
  generalize hs0 : Store.setObj (Store.newTok _ _ _ _) _ _ = s0
  have hI0 : PI σ s0 s.next [.int .i64 0, .int .i64 0, .row (s.next + 1) 4 (encP (szP sd 0)), .nil] (s.next + 1) 49 4 0 := by
    subst hs0
    refine ⟨?_, ?_, hP, by omega, ?_, ?_⟩
    · simp only [go_sem, ↓reduceIte, reduceCtorEq, Nat.reduceEqDiff, Nat.reduceLT, Nat.reduceLeDiff, Nat.reduceAdd, Nat.reduceMul, Nat.reduceSub, Nat.reduceBEq, Nat.reduceDiv, Int.reduceNeg, Int.reduceLT, Int.reduceLE, Int.reduceEq, Int.reduceToNat, Int.reduceAdd, Int.reduceSub, Int.reduceMul, Int.reduceBEq, Int.reduceBNe, reduceBEq]; rfl
    · simp only [go_sem, ↓reduceIte, reduceCtorEq, Nat.reduceEqDiff, Nat.reduceLT, Nat.reduceLeDiff, Nat.reduceAdd, Nat.reduceMul, Nat.reduceSub, Nat.reduceBEq, Nat.reduceDiv, Int.reduceNeg, Int.reduceLT, Int.reduceLE, Int.reduceEq, Int.reduceToNat, Int.reduceAdd, Int.reduceSub, Int.reduceMul, Int.reduceBEq, Int.reduceBNe, reduceBEq]
    · simp only [go_sem, ↓reduceIte, reduceCtorEq, Nat.reduceEqDiff, Nat.reduceLT, Nat.reduceLeDiff, Nat.reduceAdd, Nat.reduceMul, Nat.reduceSub, Nat.reduceBEq, Nat.reduceDiv, Int.reduceNeg, Int.reduceLT, Int.reduceLE, Int.reduceEq, Int.reduceToNat, Int.reduceAdd, Int.reduceSub, Int.reduceMul, Int.reduceBEq, Int.reduceBNe, reduceBEq]
    · exact ((ha.newObj _).newTok _ _ _).setObj hP _
  clear hs0
  generalize s.next = P at *
  refine AWPc.block (AWPc.loop (α := Nat × Store × Nat) (fun a => [(1, .int .i64 pc), (2, .int .i64 it), (3, .int .i64 sd), (4, .int .u8 (mo.toNat : Int)), (18, .ptr P 0), (19, .int .i64 a.1)]) (fun a => a.2.1)
    (fun a => a.1 ≤ np ∧ PI σ a.2.1 P [.int .i64 0, .int .i64 0, .row a.2.2 4 (encP (szP sd a.1)), .nil] a.2.2 49 4 a.1) (fun a => np - a.1)
    ⟨(0, s0, P + 1), ⟨Nat.zero_le _, hI0⟩, Weak.slots' rfl (all_cons rfl (all_cons rfl (all_cons rfl (all_cons rfl (all_cons rfl (all_cons rfl all_nil))))))⟩ ?_)
  rintro ⟨i, s1, t⟩ ⟨hi, hI⟩
  dsimp only at hi hI
  have h2 := hI.o
  have h3 := hI.tk
  simp only [go_sem, ↓reduceIte, reduceCtorEq, Nat.reduceEqDiff, Nat.reduceLT, Nat.reduceLeDiff, Nat.reduceAdd, Nat.reduceMul, Nat.reduceSub, Nat.reduceBEq, Nat.reduceDiv, Int.reduceNeg, Int.reduceLT, Int.reduceLE, Int.reduceEq, Int.reduceToNat, Int.reduceAdd, Int.reduceSub, Int.reduceMul, Int.reduceBEq, Int.reduceBNe, reduceBEq, c5_l0, c5_r12]
  refine (pick_spec pc 3 (by omega) _).mono fun y s' hy => ?_
  obtain ⟨rfl, hs⟩ := hy
  have hs := hs.symm; subst hs
  rw [enp]
  by_cases hd : i < np
  · have d1 : decide ((i : Int) < (np : Nat)) = true := decide_eq_true (by omega)
    have hpl := szP_length sd i
    have e := encP_append (szP sd i) (pcHand sd i i sd 0)
    rw [← szP_snoc] at e
    simp only [go_sem, ↓reduceIte, reduceCtorEq, Nat.reduceEqDiff, Nat.reduceLT, Nat.reduceLeDiff, Nat.reduceAdd, Nat.reduceMul, Nat.reduceSub, Nat.reduceBEq, Nat.reduceDiv, Int.reduceNeg, Int.reduceLT, Int.reduceLE, Int.reduceEq, Int.reduceToNat, Int.reduceAdd, Int.reduceSub, Int.reduceMul, Int.reduceBEq, Int.reduceBNe, reduceBEq, d1]
    refine awpDreg mixed [8, 10, 1010] (by kernel_rfl) (by kernel_rfl) fun ops1 => ?_
    simp only [go_sem, ↓reduceIte, reduceCtorEq, Nat.reduceEqDiff, Nat.reduceLT, Nat.reduceLeDiff, Nat.reduceAdd, Nat.reduceMul, Nat.reduceSub, Nat.reduceBEq, Nat.reduceDiv, Int.reduceNeg, Int.reduceLT, Int.reduceLE, Int.reduceEq, Int.reduceToNat, Int.reduceAdd, Int.reduceSub, Int.reduceMul, Int.reduceBEq, Int.reduceBNe, reduceBEq, c5_d14_ops, h2]
    refine dregFn_fn call_17 (fun τ => pieceHand_spec sd i i sd 0 τ) (by simp only [go_sem, ↓reduceIte, reduceCtorEq, Nat.reduceEqDiff, Nat.reduceLT, Nat.reduceLeDiff, Nat.reduceAdd, Nat.reduceMul, Nat.reduceSub, Nat.reduceBEq, Nat.reduceDiv, Int.reduceNeg, Int.reduceLT, Int.reduceLE, Int.reduceEq, Int.reduceToNat, Int.reduceAdd, Int.reduceSub, Int.reduceMul, Int.reduceBEq, Int.reduceBNe, reduceBEq]) rfl rfl ?_
    simp only [go_sem, ↓reduceIte, reduceCtorEq, Nat.reduceEqDiff, Nat.reduceLT, Nat.reduceLeDiff, Nat.reduceAdd, Nat.reduceMul, Nat.reduceSub, Nat.reduceBEq, Nat.reduceDiv, Int.reduceNeg, Int.reduceLT, Int.reduceLE, Int.reduceEq, Int.reduceToNat, Int.reduceAdd, Int.reduceSub, Int.reduceMul, Int.reduceBEq, Int.reduceBNe, reduceBEq, maxLen, Nat.reducePow, h2, h3, encP_length, hpl, e, c5_r13]
    refine ⟨⟨by omega, by omega⟩, ⟨i + 1, ((s1.killTok t).newTok 49 4 (i + 1)).setObj P [.int .i64 0, .int .i64 0, .row s1.next 4 (encP (szP sd (i + 1))), .nil], s1.next⟩, ⟨by dsimp only; omega, hI.step _ _⟩, by dsimp only; omega, ?_⟩
    refine Weak.slots' rfl (all_cons rfl (all_cons rfl (all_cons rfl (all_cons rfl (all_cons rfl (all_cons ?_ all_nil))))))
    simp only [go_sem, ↓reduceIte, reduceCtorEq, Nat.reduceEqDiff, Nat.reduceLT, Nat.reduceLeDiff, Nat.reduceAdd, Nat.reduceMul, Nat.reduceSub, Nat.reduceBEq, Nat.reduceDiv, Int.reduceNeg, Int.reduceLT, Int.reduceLE, Int.reduceEq, Int.reduceToNat, Int.reduceAdd, Int.reduceSub, Int.reduceMul, Int.reduceBEq, Int.reduceBNe, reduceBEq]
    rw [w64 (by omega) (by omega)]; rfl
  have hi : i = np := by omega
  subst hi
  have d1 : decide ((i : Int) < (i : Nat)) = false := decide_eq_false (by omega)
  simp only [go_sem, ↓reduceIte, reduceCtorEq, Nat.reduceEqDiff, Nat.reduceLT, Nat.reduceLeDiff, Nat.reduceAdd, Nat.reduceMul, Nat.reduceSub, Nat.reduceBEq, Nat.reduceDiv, Int.reduceNeg, Int.reduceLT, Int.reduceLE, Int.reduceEq, Int.reduceToNat, Int.reduceAdd, Int.reduceSub, Int.reduceMul, Int.reduceBEq, Int.reduceBNe, reduceBEq, d1]
  refine AWPc.seq (AWPc.step ?_)
  simp only [go_sem, ↓reduceIte, reduceCtorEq, Nat.reduceEqDiff, Nat.reduceLT, Nat.reduceLeDiff, Nat.reduceAdd, Nat.reduceMul, Nat.reduceSub, Nat.reduceBEq, Nat.reduceDiv, Int.reduceNeg, Int.reduceLT, Int.reduceLE, Int.reduceEq, Int.reduceToNat, Int.reduceAdd, Int.reduceSub, Int.reduceMul, Int.reduceBEq, Int.reduceBNe, reduceBEq, c5_r15]
  refine AWPc.weak (Weak.fullObj P 3 h2 rfl 52 3 (xs := []) rfl 0) ?_
  have hpl := hI.pl
  have hge := hI.ge
  have hnx := hI.nx
  generalize hs1 : Store.setObj (Store.newTok _ _ _ _) _ _ = s1'
  have hI1 : PI σ s1' P [.int .i64 0, .int .i64 0, .row t 4 (encP (szP sd i)), .row s1.next 3 (encI (szI sd 0))] s1.next 52 3 0 := by
    subst hs1
    refine ⟨?_, ?_, hpl, by omega, ?_, ?_⟩
    · simp only [go_sem, ↓reduceIte, reduceCtorEq, Nat.reduceEqDiff, Nat.reduceLT, Nat.reduceLeDiff, Nat.reduceAdd, Nat.reduceMul, Nat.reduceSub, Nat.reduceBEq, Nat.reduceDiv, Int.reduceNeg, Int.reduceLT, Int.reduceLE, Int.reduceEq, Int.reduceToNat, Int.reduceAdd, Int.reduceSub, Int.reduceMul, Int.reduceBEq, Int.reduceBNe, reduceBEq]; rfl
    · simp only [go_sem, ↓reduceIte, reduceCtorEq, Nat.reduceEqDiff, Nat.reduceLT, Nat.reduceLeDiff, Nat.reduceAdd, Nat.reduceMul, Nat.reduceSub, Nat.reduceBEq, Nat.reduceDiv, Int.reduceNeg, Int.reduceLT, Int.reduceLE, Int.reduceEq, Int.reduceToNat, Int.reduceAdd, Int.reduceSub, Int.reduceMul, Int.reduceBEq, Int.reduceBNe, reduceBEq]
    · simp only [go_sem, ↓reduceIte, reduceCtorEq, Nat.reduceEqDiff, Nat.reduceLT, Nat.reduceLeDiff, Nat.reduceAdd, Nat.reduceMul, Nat.reduceSub, Nat.reduceBEq, Nat.reduceDiv, Int.reduceNeg, Int.reduceLT, Int.reduceLE, Int.reduceEq, Int.reduceToNat, Int.reduceAdd, Int.reduceSub, Int.reduceMul, Int.reduceBEq, Int.reduceBNe, reduceBEq]
    · exact (hI.ag.newTok _ _ _).setObj hpl _
  clear hs1
  refine AWPc.block (AWPc.loop (α := Nat × Store × Nat) (fun a => [(2, .int .i64 it), (3, .int .i64 sd), (4, .int .u8 (mo.toNat : Int)), (18, .ptr P 0), (20, .int .i64 a.1)]) (fun a => a.2.1)
    (fun a => a.1 ≤ ni ∧ PI σ a.2.1 P [.int .i64 0, .int .i64 0, .row t 4 (encP (szP sd i)), .row a.2.2 3 (encI (szI sd a.1))] a.2.2 52 3 a.1) (fun a => ni - a.1)
    ⟨(0, s1', s1.next), ⟨Nat.zero_le _, hI1⟩, Weak.slots' rfl (all_cons rfl (all_cons rfl (all_cons rfl (all_cons rfl (all_cons rfl all_nil)))))⟩ ?_)
  rintro ⟨j, s2, t'⟩ ⟨hj, hJ⟩
  dsimp only at hj hJ
  have h2 := hJ.o
  have h3 := hJ.tk
  simp only [go_sem, ↓reduceIte, reduceCtorEq, Nat.reduceEqDiff, Nat.reduceLT, Nat.reduceLeDiff, Nat.reduceAdd, Nat.reduceMul, Nat.reduceSub, Nat.reduceBEq, Nat.reduceDiv, Int.reduceNeg, Int.reduceLT, Int.reduceLE, Int.reduceEq, Int.reduceToNat, Int.reduceAdd, Int.reduceSub, Int.reduceMul, Int.reduceBEq, Int.reduceBNe, reduceBEq, c5_l1, c5_r16]
  refine (pick_spec it 17 (by omega) _).mono fun y s' hy => ?_
  obtain ⟨rfl, hs⟩ := hy
  have hs := hs.symm; subst hs
  rw [eni]
  by_cases hd : j < ni
  · have d1 : decide ((j : Int) < (ni : Nat)) = true := decide_eq_true (by omega)
    have hpl := szI_length sd j
    have e := encI_append (szI sd j) (itHand j j (W (sd + j)) 0)
    rw [← szI_snoc] at e
    simp only [go_sem, ↓reduceIte, reduceCtorEq, Nat.reduceEqDiff, Nat.reduceLT, Nat.reduceLeDiff, Nat.reduceAdd, Nat.reduceMul, Nat.reduceSub, Nat.reduceBEq, Nat.reduceDiv, Int.reduceNeg, Int.reduceLT, Int.reduceLE, Int.reduceEq, Int.reduceToNat, Int.reduceAdd, Int.reduceSub, Int.reduceMul, Int.reduceBEq, Int.reduceBNe, reduceBEq, d1]
    refine awpDreg mixed [9, 11, 1011] (by kernel_rfl) (by kernel_rfl) fun ops1 => ?_
    simp only [go_sem, ↓reduceIte, reduceCtorEq, Nat.reduceEqDiff, Nat.reduceLT, Nat.reduceLeDiff, Nat.reduceAdd, Nat.reduceMul, Nat.reduceSub, Nat.reduceBEq, Nat.reduceDiv, Int.reduceNeg, Int.reduceLT, Int.reduceLE, Int.reduceEq, Int.reduceToNat, Int.reduceAdd, Int.reduceSub, Int.reduceMul, Int.reduceBEq, Int.reduceBNe, reduceBEq, c5_d18_ops, h2]
    refine dregFn_fn call_18 (fun τ => intentHand_spec j j (W (sd + j)) 0 τ) (by simp only [go_sem, ↓reduceIte, reduceCtorEq, Nat.reduceEqDiff, Nat.reduceLT, Nat.reduceLeDiff, Nat.reduceAdd, Nat.reduceMul, Nat.reduceSub, Nat.reduceBEq, Nat.reduceDiv, Int.reduceNeg, Int.reduceLT, Int.reduceLE, Int.reduceEq, Int.reduceToNat, Int.reduceAdd, Int.reduceSub, Int.reduceMul, Int.reduceBEq, Int.reduceBNe, reduceBEq]) rfl rfl ?_
    simp only [go_sem, ↓reduceIte, reduceCtorEq, Nat.reduceEqDiff, Nat.reduceLT, Nat.reduceLeDiff, Nat.reduceAdd, Nat.reduceMul, Nat.reduceSub, Nat.reduceBEq, Nat.reduceDiv, Int.reduceNeg, Int.reduceLT, Int.reduceLE, Int.reduceEq, Int.reduceToNat, Int.reduceAdd, Int.reduceSub, Int.reduceMul, Int.reduceBEq, Int.reduceBNe, reduceBEq, maxLen, Nat.reducePow, h2, h3, encI_length, hpl, e, c5_r17]
    refine ⟨⟨by omega, by omega⟩, ⟨j + 1, ((s2.killTok t').newTok 52 3 (j + 1)).setObj P [.int .i64 0, .int .i64 0, .row t 4 (encP (szP sd i)), .row s2.next 3 (encI (szI sd (j + 1)))], s2.next⟩, ⟨by dsimp only; omega, hJ.step _ _⟩, by dsimp only; omega, ?_⟩
    refine Weak.slots' rfl (all_cons rfl (all_cons rfl (all_cons rfl (all_cons rfl (all_cons ?_ all_nil)))))
    simp only [go_sem, ↓reduceIte, reduceCtorEq, Nat.reduceEqDiff, Nat.reduceLT, Nat.reduceLeDiff, Nat.reduceAdd, Nat.reduceMul, Nat.reduceSub, Nat.reduceBEq, Nat.reduceDiv, Int.reduceNeg, Int.reduceLT, Int.reduceLE, Int.reduceEq, Int.reduceToNat, Int.reduceAdd, Int.reduceSub, Int.reduceMul, Int.reduceBEq, Int.reduceBNe, reduceBEq]
    rw [w64 (by omega) (by omega)]; rfl
  have hj : j = ni := by omega
  subst hj
  have d1 : decide ((j : Int) < (j : Nat)) = false := decide_eq_false (by omega)
  simp only [go_sem, ↓reduceIte, reduceCtorEq, Nat.reduceEqDiff, Nat.reduceLT, Nat.reduceLeDiff, Nat.reduceAdd, Nat.reduceMul, Nat.reduceSub, Nat.reduceBEq, Nat.reduceDiv, Int.reduceNeg, Int.reduceLT, Int.reduceLE, Int.reduceEq, Int.reduceToNat, Int.reduceAdd, Int.reduceSub, Int.reduceMul, Int.reduceBEq, Int.reduceBNe, reduceBEq, d1]
  refine AWPc.weak (Weak.slots (env' := [(18, .ptr P 0), (4, .int .u8 (mo.toNat : Int))]) (all_cons rfl (all_cons rfl all_nil))) ?_
  have hge := hJ.ge
  have hnx := hJ.nx
  exact sizes_c sd i j (by omega) (by omega) mo σ s2 hwf P t t' hJ.ag h2 (by omega)
end Go.Proofs.Ytnanpamfdjnomaa
