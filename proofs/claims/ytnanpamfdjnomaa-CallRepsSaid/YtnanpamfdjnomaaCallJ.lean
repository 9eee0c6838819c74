/- call: laid replies. -/
import Derived.Test.YtnanpamfdjnomaaCallI
import Derived.Test.YtnanpamfdjnomaaStdC
namespace Go.Proofs.Ytnanpamfdjnomaa
open Go Go.RowKit Go.Proofs.Ytnanpamfdjnomaa.AL
set_option maxRecDepth 100000
set_option linter.unusedSimpArgs false

theorem Rp.avs_lt (p : Rp) (k : Nat) : ∀ x ∈ p.avs, AV.Lt k x := by simp
def Pc.lay (p : Pc) : List UInt8 := bigL p.st.toNat 1 ++ bigL p.gn.toNat 6 ++ bigL p.ix.toNat 1 ++ p.d
def It.lay (p : It) : List UInt8 := bigL p.st.toNat 1 ++ bigL p.gn.toNat 6 ++ p.d
def layPs (l : List Pc) : List UInt8 := (l.map Pc.lay).flatten
def layIs (l : List It) : List UInt8 := (l.map It.lay).flatten
def Rp.hd (p : Rp) : List UInt8 := bigL p.cd.toNat 1 ++ bigL p.bt.toNat 4 ++ bigL p.ps.length 1
def Rp.mid (p : Rp) : List UInt8 := p.hd ++ layPs p.ps ++ bigL p.is.length 1
def Rp.lay (p : Rp) : List UInt8 := p.mid ++ layIs p.is
theorem Pc.lay_length (p : Pc) : p.lay.length = 8 + p.d.length := by simp [Pc.lay, bigL_length]; omega
theorem It.lay_length (p : It) : p.lay.length = 7 + p.d.length := by simp [It.lay, bigL_length]; omega
theorem Rp.hd_length (p : Rp) : p.hd.length = 6 := by simp [Rp.hd, bigL_length]
theorem layPs_snoc (l : List Pc) (p : Pc) : layPs (l ++ [p]) = layPs l ++ p.lay := by simp [layPs]
theorem layIs_snoc (l : List It) (p : It) : layIs (l ++ [p]) = layIs l ++ p.lay := by simp [layIs]
theorem layPs_length {l : List Pc} (h : ∀ y ∈ l, y.right) : (layPs l).length = 40 * l.length := by
  induction l with
  | nil => rfl
  | cons a l ih =>
    have h1 := ih fun y hy => h y (List.mem_cons_of_mem _ hy)
    have h2 := (h a List.mem_cons_self).d1
    simp only [layPs, List.map_cons, List.flatten_cons, List.length_append, List.length_cons, Pc.lay_length] at h1 ⊢
    omega
theorem layIs_length {l : List It} (h : ∀ y ∈ l, y.right) : (layIs l).length = 135 * l.length := by
  induction l with
  | nil => rfl
  | cons a l ih =>
    have h1 := ih fun y hy => h y (List.mem_cons_of_mem _ hy)
    have h2 := (h a List.mem_cons_self).d1
    simp only [layIs, List.map_cons, List.flatten_cons, List.length_append, List.length_cons, It.lay_length] at h1 ⊢
    omega
theorem right_take {α : Type} {P : α → Prop} {l : List α} (h : ∀ y ∈ l, P y) (i : Nat) : ∀ y ∈ l.take i, P y := fun y hy => h y (List.mem_of_mem_take hy)
theorem u8_nat (n : Nat) : IntKind.u8.wrap (n : Int) = ((UInt8.ofNat n).toNat : Int) := by
  simp [IntKind.wrap, IntKind.signed, IntKind.bits]
theorem bigL_one (n : Nat) : bigL n 1 = [UInt8.ofNat n] := by simp [bigL]
theorem cbytesI (n : Int) (h0 : 0 ≤ n) (hn : n < 2 ^ 63) (size : Nat) (hs : size ≤ 7) (σ : Store) :
    ACalls Try.prog 29 [.int .i64 n, .int .i64 size] σ (fun x s => x = AV.bytes (bigL n.toNat size) ∧ s = σ) := by
  obtain ⟨m, rfl⟩ := Int.eq_ofNat_of_zero_le h0
  exact cbytes_spec m (by omega) size hs σ

theorem layRep_spec (p : Rp) (hp : p.ps.length < 2 ^ 47) (hi : p.is.length < 2 ^ 47) (σ : Store) :
    ACalls Try.prog 19 [.agg p.avs] σ (fun x s => x = (if p.right then .tup [AV.bytes p.lay, .int .i64 0] else .tup [AV.bytes [], .int .i64 1]) ∧ s = σ) := by
  refine ACalls.of_arun Try.func19 c19_eq c19_n c19_rs (by simp) fun hwf => ?_
  simp only [go_sem, ↓reduceIte, reduceCtorEq, Nat.reduceEqDiff, Nat.reduceLT, Nat.reduceLeDiff, Nat.reduceAdd, Nat.reduceMul, Nat.reduceSub, Nat.reduceBEq, Nat.reduceDiv, Int.reduceNeg, Int.reduceLT, Int.reduceLE, Int.reduceEq, Int.reduceToNat, Int.reduceAdd, Int.reduceSub, Int.reduceMul, Int.reduceBEq, Int.reduceBNe, reduceBEq, c19, c19_r0, c19_r1]
  refine (cRight_spec p hp hi _).mono fun y s' hy => ?_
  obtain ⟨rfl, hs⟩ := hy
  have hs := hs.symm; subst hs
  by_cases hr : p.right
  case neg =>
    have d : (!decide p.right) = true := by simp [hr]
    rw [if_neg hr]
    simp only [go_sem, ↓reduceIte, reduceCtorEq, Nat.reduceEqDiff, Nat.reduceLT, Nat.reduceLeDiff, Nat.reduceAdd, Nat.reduceMul, Nat.reduceSub, Nat.reduceBEq, Nat.reduceDiv, Int.reduceNeg, Int.reduceLT, Int.reduceLE, Int.reduceEq, Int.reduceToNat, Int.reduceAdd, Int.reduceSub, Int.reduceMul, Int.reduceBEq, Int.reduceBNe, reduceBEq, d, c19_r2]
    exact ⟨_, _, _, rfl, WeakV.none hwf (by repeat (first | exact Agree.refl _ | refine Agree.newObj ?_ _ | refine Agree.newTok ?_ _ _ _ | refine Agree.killTok ?_ (by first | omega | (simp only [go_sem] <;> omega)) | refine Agree.setObj ?_ (by first | omega | (simp only [go_sem] <;> omega)) _ | refine Agree.dropObj ?_ (by first | omega | (simp only [go_sem] <;> omega)))) (LeR.of_le (Le.tup2 (Le.nil 1) (.refl _)) (by simp)), rfl, rfl⟩
  rw [if_pos hr]
  have d : (!decide p.right) = false := by simp [hr]
  have hr' := hr
  obtain ⟨hps, his, c1, c2, b1, b2, p2, i2⟩ := hr'
  simp only [go_sem, ↓reduceIte, reduceCtorEq, Nat.reduceEqDiff, Nat.reduceLT, Nat.reduceLeDiff, Nat.reduceAdd, Nat.reduceMul, Nat.reduceSub, Nat.reduceBEq, Nat.reduceDiv, Int.reduceNeg, Int.reduceLT, Int.reduceLE, Int.reduceEq, Int.reduceToNat, Int.reduceAdd, Int.reduceSub, Int.reduceMul, Int.reduceBEq, Int.reduceBNe, reduceBEq, d]
  refine awpDreg mixed [11] (by kernel_rfl) (by kernel_rfl) fun ops1 => ?_
  simp only [go_sem, ↓reduceIte, reduceCtorEq, Nat.reduceEqDiff, Nat.reduceLT, Nat.reduceLeDiff, Nat.reduceAdd, Nat.reduceMul, Nat.reduceSub, Nat.reduceBEq, Nat.reduceDiv, Int.reduceNeg, Int.reduceLT, Int.reduceLE, Int.reduceEq, Int.reduceToNat, Int.reduceAdd, Int.reduceSub, Int.reduceMul, Int.reduceBEq, Int.reduceBNe, reduceBEq, c19_d3_ops, encP_length]
  refine dregFn_fn call_29 (fun τ => cbytesI p.cd c1 (by omega) 1 (by omega) τ) (by simp only [go_sem, ↓reduceIte, reduceCtorEq, Nat.reduceEqDiff, Nat.reduceLT, Nat.reduceLeDiff, Nat.reduceAdd, Nat.reduceMul, Nat.reduceSub, Nat.reduceBEq, Nat.reduceDiv, Int.reduceNeg, Int.reduceLT, Int.reduceLE, Int.reduceEq, Int.reduceToNat, Int.reduceAdd, Int.reduceSub, Int.reduceMul, Int.reduceBEq, Int.reduceBNe, reduceBEq]; rfl) rfl rfl ?_
  simp only [go_sem, ↓reduceIte, reduceCtorEq, Nat.reduceEqDiff, Nat.reduceLT, Nat.reduceLeDiff, Nat.reduceAdd, Nat.reduceMul, Nat.reduceSub, Nat.reduceBEq, Nat.reduceDiv, Int.reduceNeg, Int.reduceLT, Int.reduceLE, Int.reduceEq, Int.reduceToNat, Int.reduceAdd, Int.reduceSub, Int.reduceMul, Int.reduceBEq, Int.reduceBNe, reduceBEq, encP_length]
  refine dregFn_fn call_29 (fun τ => cbytesI p.bt b1 (by omega) 4 (by omega) τ) (by simp only [go_sem, ↓reduceIte, reduceCtorEq, Nat.reduceEqDiff, Nat.reduceLT, Nat.reduceLeDiff, Nat.reduceAdd, Nat.reduceMul, Nat.reduceSub, Nat.reduceBEq, Nat.reduceDiv, Int.reduceNeg, Int.reduceLT, Int.reduceLE, Int.reduceEq, Int.reduceToNat, Int.reduceAdd, Int.reduceSub, Int.reduceMul, Int.reduceBEq, Int.reduceBNe, reduceBEq]; rfl) rfl rfl ?_
  simp only [go_sem, ↓reduceIte, reduceCtorEq, Nat.reduceEqDiff, Nat.reduceLT, Nat.reduceLeDiff, Nat.reduceAdd, Nat.reduceMul, Nat.reduceSub, Nat.reduceBEq, Nat.reduceDiv, Int.reduceNeg, Int.reduceLT, Int.reduceLE, Int.reduceEq, Int.reduceToNat, Int.reduceAdd, Int.reduceSub, Int.reduceMul, Int.reduceBEq, Int.reduceBNe, reduceBEq, encP_length]
  refine dregFn_fn call_29 (fun τ => cbytes_spec p.ps.length (by omega) 1 (by omega) τ) (by simp only [go_sem, ↓reduceIte, reduceCtorEq, Nat.reduceEqDiff, Nat.reduceLT, Nat.reduceLeDiff, Nat.reduceAdd, Nat.reduceMul, Nat.reduceSub, Nat.reduceBEq, Nat.reduceDiv, Int.reduceNeg, Int.reduceLT, Int.reduceLE, Int.reduceEq, Int.reduceToNat, Int.reduceAdd, Int.reduceSub, Int.reduceMul, Int.reduceBEq, Int.reduceBNe, reduceBEq]; rfl) rfl rfl ?_
  simp only [go_sem, ↓reduceIte, reduceCtorEq, Nat.reduceEqDiff, Nat.reduceLT, Nat.reduceLeDiff, Nat.reduceAdd, Nat.reduceMul, Nat.reduceSub, Nat.reduceBEq, Nat.reduceDiv, Int.reduceNeg, Int.reduceLT, Int.reduceLE, Int.reduceEq, Int.reduceToNat, Int.reduceAdd, Int.reduceSub, Int.reduceMul, Int.reduceBEq, Int.reduceBNe, reduceBEq]
  have hfl : [bigL p.cd.toNat 1, bigL p.bt.toNat 4, bigL p.ps.length 1].flatten = p.hd := by simp [Rp.hd]
  refine ⟨_, _, ACalls.le1 (Le.list (es := 1) (x := .full 1 _) (xs := encBs [bigL p.cd.toNat 1, bigL p.bt.toNat 4, bigL p.ps.length 1]) rfl) (concat_row_spec _ (by rw [hfl, Rp.hd_length]; omega) (by rw [hfl, Rp.hd_length]; omega) (by simp) _), ?_⟩
  simp only [go_sem, ↓reduceIte, reduceCtorEq, Nat.reduceEqDiff, Nat.reduceLT, Nat.reduceLeDiff, Nat.reduceAdd, Nat.reduceMul, Nat.reduceSub, Nat.reduceBEq, Nat.reduceDiv, Int.reduceNeg, Int.reduceLT, Int.reduceLE, Int.reduceEq, Int.reduceToNat, Int.reduceAdd, Int.reduceSub, Int.reduceMul, Int.reduceBEq, Int.reduceBNe, reduceBEq, c19_r4, encP_length, hfl]
  refine AWPc.loop (α := Nat) (fun i => [(1, .ptr σ.next 0), (4, .row (σ.next + 1) 1 (encB (p.hd ++ layPs (p.ps.take i)))), (25, .pv (.lst 4 (encP p.ps))), (26, .int .i64 (p.ps.length : Int)), (27, .int .i64 i)]) (fun i => (σ.newObj p.avs).newTok 5 1 (p.hd ++ layPs (p.ps.take i)).length) (fun i => i ≤ p.ps.length) (fun i => p.ps.length - i)
    ⟨0, Nat.zero_le _, ?_⟩ ?_
  · refine Weak.one (hwf.newObj (Rp.avs_lt p _)) (Nat.le_succ _) (by repeat (first | exact Agree.refl _ | refine Agree.newObj ?_ _ | refine Agree.newTok ?_ _ _ _ | refine Agree.killTok ?_ (by first | omega | (simp only [go_sem] <;> omega)) | refine Agree.setObj ?_ (by first | omega | (simp only [go_sem] <;> omega)) _ | refine Agree.dropObj ?_ (by first | omega | (simp only [go_sem] <;> omega)))) (σ.next + 1) (by simp only [go_sem, ↓reduceIte, reduceCtorEq, Nat.reduceEqDiff, Nat.reduceLT, Nat.reduceLeDiff, Nat.reduceAdd, Nat.reduceMul, Nat.reduceSub, Nat.reduceBEq, Nat.reduceDiv, Int.reduceNeg, Int.reduceLT, Int.reduceLE, Int.reduceEq, Int.reduceToNat, Int.reduceAdd, Int.reduceSub, Int.reduceMul, Int.reduceBEq, Int.reduceBNe, reduceBEq]; simp [layPs]) (Nat.le_refl _) ?_
    exact all_cons (.same (by simp only [go_sem, ↓reduceIte, reduceCtorEq, Nat.reduceEqDiff, Nat.reduceLT, Nat.reduceLeDiff, Nat.reduceAdd, Nat.reduceMul, Nat.reduceSub, Nat.reduceBEq, Nat.reduceDiv, Int.reduceNeg, Int.reduceLT, Int.reduceLE, Int.reduceEq, Int.reduceToNat, Int.reduceAdd, Int.reduceSub, Int.reduceMul, Int.reduceBEq, Int.reduceBNe, reduceBEq]; simp)) (all_cons (.row0 (by simp [layPs])) (all_cons (.pv _ _ _) (all_cons (.pv _ _ _) (all_cons (.pv _ _ _) all_nil))))
  intro i hi'
  by_cases hd : i < p.ps.length
  · have d1 : decide ((i : Int) < p.ps.length) = true := decide_eq_true (by omega)
    have hpr := hps _ (List.getElem_mem hd)
    obtain ⟨s1, s2, g1, g2, x1, x2, dl⟩ := hpr
    have hL := layPs_length (right_take hps i)
    have hL' : (List.take i p.ps).length ≤ 2 := by rw [List.length_take]; omega
    simp only [go_sem, ↓reduceIte, reduceCtorEq, Nat.reduceEqDiff, Nat.reduceLT, Nat.reduceLeDiff, Nat.reduceAdd, Nat.reduceMul, Nat.reduceSub, Nat.reduceBEq, Nat.reduceDiv, Int.reduceNeg, Int.reduceLT, Int.reduceLE, Int.reduceEq, Int.reduceToNat, Int.reduceAdd, Int.reduceSub, Int.reduceMul, Int.reduceBEq, Int.reduceBNe, reduceBEq, c19_l0, c19_r5, d1]
    simp only [go_sem, ↓reduceIte, reduceCtorEq, Nat.reduceEqDiff, Nat.reduceLT, Nat.reduceLeDiff, Nat.reduceAdd, Nat.reduceMul, Nat.reduceSub, Nat.reduceBEq, Nat.reduceDiv, Int.reduceNeg, Int.reduceLT, Int.reduceLE, Int.reduceEq, Int.reduceToNat, Int.reduceAdd, Int.reduceSub, Int.reduceMul, Int.reduceBEq, Int.reduceBNe, reduceBEq, c19_r6, encP_length, Int.toNat_natCast, encP_get hd]
    refine ⟨by omega, awpDreg mixed [13] (by kernel_rfl) (by kernel_rfl) fun ops1 => ?_⟩
    simp only [go_sem, ↓reduceIte, reduceCtorEq, Nat.reduceEqDiff, Nat.reduceLT, Nat.reduceLeDiff, Nat.reduceAdd, Nat.reduceMul, Nat.reduceSub, Nat.reduceBEq, Nat.reduceDiv, Int.reduceNeg, Int.reduceLT, Int.reduceLE, Int.reduceEq, Int.reduceToNat, Int.reduceAdd, Int.reduceSub, Int.reduceMul, Int.reduceBEq, Int.reduceBNe, reduceBEq, c19_d7_ops]
    refine dregFn_fn call_29 (fun τ => cbytesI p.ps[i].st s1 (by omega) 1 (by omega) τ) (by simp only [go_sem, ↓reduceIte, reduceCtorEq, Nat.reduceEqDiff, Nat.reduceLT, Nat.reduceLeDiff, Nat.reduceAdd, Nat.reduceMul, Nat.reduceSub, Nat.reduceBEq, Nat.reduceDiv, Int.reduceNeg, Int.reduceLT, Int.reduceLE, Int.reduceEq, Int.reduceToNat, Int.reduceAdd, Int.reduceSub, Int.reduceMul, Int.reduceBEq, Int.reduceBNe, reduceBEq]; rfl) rfl rfl ?_
    simp only [go_sem, ↓reduceIte, reduceCtorEq, Nat.reduceEqDiff, Nat.reduceLT, Nat.reduceLeDiff, Nat.reduceAdd, Nat.reduceMul, Nat.reduceSub, Nat.reduceBEq, Nat.reduceDiv, Int.reduceNeg, Int.reduceLT, Int.reduceLE, Int.reduceEq, Int.reduceToNat, Int.reduceAdd, Int.reduceSub, Int.reduceMul, Int.reduceBEq, Int.reduceBNe, reduceBEq]
    refine dregFn_fn call_29 (fun τ => cbytesI p.ps[i].gn (by omega) (by omega) 6 (by omega) τ) (by simp only [go_sem, ↓reduceIte, reduceCtorEq, Nat.reduceEqDiff, Nat.reduceLT, Nat.reduceLeDiff, Nat.reduceAdd, Nat.reduceMul, Nat.reduceSub, Nat.reduceBEq, Nat.reduceDiv, Int.reduceNeg, Int.reduceLT, Int.reduceLE, Int.reduceEq, Int.reduceToNat, Int.reduceAdd, Int.reduceSub, Int.reduceMul, Int.reduceBEq, Int.reduceBNe, reduceBEq]; rfl) rfl rfl ?_
    simp only [go_sem, ↓reduceIte, reduceCtorEq, Nat.reduceEqDiff, Nat.reduceLT, Nat.reduceLeDiff, Nat.reduceAdd, Nat.reduceMul, Nat.reduceSub, Nat.reduceBEq, Nat.reduceDiv, Int.reduceNeg, Int.reduceLT, Int.reduceLE, Int.reduceEq, Int.reduceToNat, Int.reduceAdd, Int.reduceSub, Int.reduceMul, Int.reduceBEq, Int.reduceBNe, reduceBEq]
    refine dregFn_fn call_29 (fun τ => cbytesI p.ps[i].ix x1 (by omega) 1 (by omega) τ) (by simp only [go_sem, ↓reduceIte, reduceCtorEq, Nat.reduceEqDiff, Nat.reduceLT, Nat.reduceLeDiff, Nat.reduceAdd, Nat.reduceMul, Nat.reduceSub, Nat.reduceBEq, Nat.reduceDiv, Int.reduceNeg, Int.reduceLT, Int.reduceLE, Int.reduceEq, Int.reduceToNat, Int.reduceAdd, Int.reduceSub, Int.reduceMul, Int.reduceBEq, Int.reduceBNe, reduceBEq]; rfl) rfl rfl ?_
    simp only [go_sem, ↓reduceIte, reduceCtorEq, Nat.reduceEqDiff, Nat.reduceLT, Nat.reduceLeDiff, Nat.reduceAdd, Nat.reduceMul, Nat.reduceSub, Nat.reduceBEq, Nat.reduceDiv, Int.reduceNeg, Int.reduceLT, Int.reduceLE, Int.reduceEq, Int.reduceToNat, Int.reduceAdd, Int.reduceSub, Int.reduceMul, Int.reduceBEq, Int.reduceBNe, reduceBEq]
    have hfl : [p.hd ++ layPs (p.ps.take i), bigL p.ps[i].st.toNat 1, bigL p.ps[i].gn.toNat 6, bigL p.ps[i].ix.toNat 1, p.ps[i].d].flatten = p.hd ++ layPs (p.ps.take (i + 1)) := by
      rw [take_snoc' hd, layPs_snoc]; simp [Pc.lay]
    have hll : [p.hd ++ layPs (p.ps.take i), bigL p.ps[i].st.toNat 1, bigL p.ps[i].gn.toNat 6, bigL p.ps[i].ix.toNat 1, p.ps[i].d].flatten.length = 6 + 40 * (List.take i p.ps).length + 40 := by
      simp [Rp.hd_length, hL, bigL_length, dl]; omega
    refine ⟨_, _, ACalls.le1 (Le.list (es := 1) (x := .full 1 _) (xs := encBs [p.hd ++ layPs (p.ps.take i), bigL p.ps[i].st.toNat 1, bigL p.ps[i].gn.toNat 6, bigL p.ps[i].ix.toNat 1, p.ps[i].d]) rfl) (concat_row_spec _ (by rw [hll]; omega) (by rw [hll]; omega) (by simp) _), ?_⟩
    simp only [go_sem, ↓reduceIte, reduceCtorEq, Nat.reduceEqDiff, Nat.reduceLT, Nat.reduceLeDiff, Nat.reduceAdd, Nat.reduceMul, Nat.reduceSub, Nat.reduceBEq, Nat.reduceDiv, Int.reduceNeg, Int.reduceLT, Int.reduceLE, Int.reduceEq, Int.reduceToNat, Int.reduceAdd, Int.reduceSub, Int.reduceMul, Int.reduceBEq, Int.reduceBNe, reduceBEq, c19_r8, hfl]
    refine ⟨i + 1, by omega, by omega, ?_⟩
    refine Weak.one (hwf.newObj (Rp.avs_lt p _)) (Nat.le_succ _) (by repeat (first | exact Agree.refl _ | refine Agree.newObj ?_ _ | refine Agree.newTok ?_ _ _ _ | refine Agree.killTok ?_ (by first | omega | (simp only [go_sem] <;> omega)) | refine Agree.setObj ?_ (by first | omega | (simp only [go_sem] <;> omega)) _ | refine Agree.dropObj ?_ (by first | omega | (simp only [go_sem] <;> omega)))) (σ.next + 1 + 1 + 1) (by simp only [go_sem, ↓reduceIte, reduceCtorEq, Nat.reduceEqDiff, Nat.reduceLT, Nat.reduceLeDiff, Nat.reduceAdd, Nat.reduceMul, Nat.reduceSub, Nat.reduceBEq, Nat.reduceDiv, Int.reduceNeg, Int.reduceLT, Int.reduceLE, Int.reduceEq, Int.reduceToNat, Int.reduceAdd, Int.reduceSub, Int.reduceMul, Int.reduceBEq, Int.reduceBNe, reduceBEq]) (by simp only [go_sem, ↓reduceIte, reduceCtorEq, Nat.reduceEqDiff, Nat.reduceLT, Nat.reduceLeDiff, Nat.reduceAdd, Nat.reduceMul, Nat.reduceSub, Nat.reduceBEq, Nat.reduceDiv, Int.reduceNeg, Int.reduceLT, Int.reduceLE, Int.reduceEq, Int.reduceToNat, Int.reduceAdd, Int.reduceSub, Int.reduceMul, Int.reduceBEq, Int.reduceBNe, reduceBEq]) ?_
    refine all_cons (.same (by simp only [go_sem, ↓reduceIte, reduceCtorEq, Nat.reduceEqDiff, Nat.reduceLT, Nat.reduceLeDiff, Nat.reduceAdd, Nat.reduceMul, Nat.reduceSub, Nat.reduceBEq, Nat.reduceDiv, Int.reduceNeg, Int.reduceLT, Int.reduceLE, Int.reduceEq, Int.reduceToNat, Int.reduceAdd, Int.reduceSub, Int.reduceMul, Int.reduceBEq, Int.reduceBNe, reduceBEq]; simp)) (all_cons (.row0 rfl) (all_cons (.pv _ _ _) (all_cons (.pv _ _ _) (all_cons (.int _ _ ?_) all_nil))))
    rw [w64 (by omega) (by omega)]; simp
  have hd : i = p.ps.length := by omega
  subst hd
  have d1 : decide ((p.ps.length : Int) < p.ps.length) = false := decide_eq_false (by omega)
  have hL := layPs_length hps
  have hml : p.mid.length = 7 + 40 * p.ps.length := by simp [Rp.mid, Rp.hd_length, hL, bigL_length]; omega
  have hmid : p.hd ++ layPs p.ps ++ [UInt8.ofNat p.is.length] = p.mid := by rw [Rp.mid, bigL_one]
  simp only [go_sem, ↓reduceIte, reduceCtorEq, Nat.reduceEqDiff, Nat.reduceLT, Nat.reduceLeDiff, Nat.reduceAdd, Nat.reduceMul, Nat.reduceSub, Nat.reduceBEq, Nat.reduceDiv, Int.reduceNeg, Int.reduceLT, Int.reduceLE, Int.reduceEq, Int.reduceToNat, Int.reduceAdd, Int.reduceSub, Int.reduceMul, Int.reduceBEq, Int.reduceBNe, reduceBEq, c19_l0, c19_r5, d1]
  simp only [go_sem, ↓reduceIte, reduceCtorEq, Nat.reduceEqDiff, Nat.reduceLT, Nat.reduceLeDiff, Nat.reduceAdd, Nat.reduceMul, Nat.reduceSub, Nat.reduceBEq, Nat.reduceDiv, Int.reduceNeg, Int.reduceLT, Int.reduceLE, Int.reduceEq, Int.reduceToNat, Int.reduceAdd, Int.reduceSub, Int.reduceMul, Int.reduceBEq, Int.reduceBNe, reduceBEq, maxLen, Nat.reducePow, c19_r9, c19_r10, encI_length, u8_nat, encB_one, encB_append, encB_length, List.take_length, List.length_append, hmid, Rp.hd_length, hL]
  refine ⟨by omega, ?_⟩
  refine AWPc.loop (α := Nat) (fun i => [(1, .ptr σ.next 0), (4, .row (σ.next + 1) 1 (encB (p.mid ++ layIs (p.is.take i)))), (54, .pv (.lst 3 (encI p.is))), (55, .int .i64 (p.is.length : Int)), (56, .int .i64 i)]) (fun i => (σ.newObj p.avs).newTok 5 1 (p.mid ++ layIs (p.is.take i)).length) (fun i => i ≤ p.is.length) (fun i => p.is.length - i)
    ⟨0, Nat.zero_le _, ?_⟩ ?_
  · refine Weak.one (hwf.newObj (Rp.avs_lt p _)) (Nat.le_succ _) (by repeat (first | exact Agree.refl _ | refine Agree.newObj ?_ _ | refine Agree.newTok ?_ _ _ _ | refine Agree.killTok ?_ (by first | omega | (simp only [go_sem] <;> omega)) | refine Agree.setObj ?_ (by first | omega | (simp only [go_sem] <;> omega)) _ | refine Agree.dropObj ?_ (by first | omega | (simp only [go_sem] <;> omega)))) (σ.next + 1 + 1) (by simp only [go_sem, ↓reduceIte, reduceCtorEq, Nat.reduceEqDiff, Nat.reduceLT, Nat.reduceLeDiff, Nat.reduceAdd, Nat.reduceMul, Nat.reduceSub, Nat.reduceBEq, Nat.reduceDiv, Int.reduceNeg, Int.reduceLT, Int.reduceLE, Int.reduceEq, Int.reduceToNat, Int.reduceAdd, Int.reduceSub, Int.reduceMul, Int.reduceBEq, Int.reduceBNe, reduceBEq]; simp [layIs, hml]; omega) (by simp only [go_sem, ↓reduceIte, reduceCtorEq, Nat.reduceEqDiff, Nat.reduceLT, Nat.reduceLeDiff, Nat.reduceAdd, Nat.reduceMul, Nat.reduceSub, Nat.reduceBEq, Nat.reduceDiv, Int.reduceNeg, Int.reduceLT, Int.reduceLE, Int.reduceEq, Int.reduceToNat, Int.reduceAdd, Int.reduceSub, Int.reduceMul, Int.reduceBEq, Int.reduceBNe, reduceBEq]) ?_
    exact all_cons (.same (by simp only [go_sem, ↓reduceIte, reduceCtorEq, Nat.reduceEqDiff, Nat.reduceLT, Nat.reduceLeDiff, Nat.reduceAdd, Nat.reduceMul, Nat.reduceSub, Nat.reduceBEq, Nat.reduceDiv, Int.reduceNeg, Int.reduceLT, Int.reduceLE, Int.reduceEq, Int.reduceToNat, Int.reduceAdd, Int.reduceSub, Int.reduceMul, Int.reduceBEq, Int.reduceBNe, reduceBEq]; simp)) (all_cons (.row0 (by simp [layIs])) (all_cons (.pv _ _ _) (all_cons (.pv _ _ _) (all_cons (.pv _ _ _) all_nil))))
  intro i hi'
  by_cases hd : i < p.is.length
  · have d1 : decide ((i : Int) < p.is.length) = true := decide_eq_true (by omega)
    have hpr := his _ (List.getElem_mem hd)
    obtain ⟨s1, s2, g1, g2, dl⟩ := hpr
    have hL := layIs_length (right_take his i)
    have hL' : (List.take i p.is).length ≤ 16 := by rw [List.length_take]; omega
    simp only [go_sem, ↓reduceIte, reduceCtorEq, Nat.reduceEqDiff, Nat.reduceLT, Nat.reduceLeDiff, Nat.reduceAdd, Nat.reduceMul, Nat.reduceSub, Nat.reduceBEq, Nat.reduceDiv, Int.reduceNeg, Int.reduceLT, Int.reduceLE, Int.reduceEq, Int.reduceToNat, Int.reduceAdd, Int.reduceSub, Int.reduceMul, Int.reduceBEq, Int.reduceBNe, reduceBEq, c19_l1, c19_r11, d1]
    simp only [go_sem, ↓reduceIte, reduceCtorEq, Nat.reduceEqDiff, Nat.reduceLT, Nat.reduceLeDiff, Nat.reduceAdd, Nat.reduceMul, Nat.reduceSub, Nat.reduceBEq, Nat.reduceDiv, Int.reduceNeg, Int.reduceLT, Int.reduceLE, Int.reduceEq, Int.reduceToNat, Int.reduceAdd, Int.reduceSub, Int.reduceMul, Int.reduceBEq, Int.reduceBNe, reduceBEq, c19_r12, encI_length, Int.toNat_natCast, encI_get hd]
    refine ⟨by omega, awpDreg mixed [10] (by kernel_rfl) (by kernel_rfl) fun ops1 => ?_⟩
    simp only [go_sem, ↓reduceIte, reduceCtorEq, Nat.reduceEqDiff, Nat.reduceLT, Nat.reduceLeDiff, Nat.reduceAdd, Nat.reduceMul, Nat.reduceSub, Nat.reduceBEq, Nat.reduceDiv, Int.reduceNeg, Int.reduceLT, Int.reduceLE, Int.reduceEq, Int.reduceToNat, Int.reduceAdd, Int.reduceSub, Int.reduceMul, Int.reduceBEq, Int.reduceBNe, reduceBEq, c19_d13_ops]
    refine dregFn_fn call_29 (fun τ => cbytesI p.is[i].st s1 (by omega) 1 (by omega) τ) (by simp only [go_sem, ↓reduceIte, reduceCtorEq, Nat.reduceEqDiff, Nat.reduceLT, Nat.reduceLeDiff, Nat.reduceAdd, Nat.reduceMul, Nat.reduceSub, Nat.reduceBEq, Nat.reduceDiv, Int.reduceNeg, Int.reduceLT, Int.reduceLE, Int.reduceEq, Int.reduceToNat, Int.reduceAdd, Int.reduceSub, Int.reduceMul, Int.reduceBEq, Int.reduceBNe, reduceBEq]; rfl) rfl rfl ?_
    simp only [go_sem, ↓reduceIte, reduceCtorEq, Nat.reduceEqDiff, Nat.reduceLT, Nat.reduceLeDiff, Nat.reduceAdd, Nat.reduceMul, Nat.reduceSub, Nat.reduceBEq, Nat.reduceDiv, Int.reduceNeg, Int.reduceLT, Int.reduceLE, Int.reduceEq, Int.reduceToNat, Int.reduceAdd, Int.reduceSub, Int.reduceMul, Int.reduceBEq, Int.reduceBNe, reduceBEq]
    refine dregFn_fn call_29 (fun τ => cbytesI p.is[i].gn (by omega) (by omega) 6 (by omega) τ) (by simp only [go_sem, ↓reduceIte, reduceCtorEq, Nat.reduceEqDiff, Nat.reduceLT, Nat.reduceLeDiff, Nat.reduceAdd, Nat.reduceMul, Nat.reduceSub, Nat.reduceBEq, Nat.reduceDiv, Int.reduceNeg, Int.reduceLT, Int.reduceLE, Int.reduceEq, Int.reduceToNat, Int.reduceAdd, Int.reduceSub, Int.reduceMul, Int.reduceBEq, Int.reduceBNe, reduceBEq]; rfl) rfl rfl ?_
    simp only [go_sem, ↓reduceIte, reduceCtorEq, Nat.reduceEqDiff, Nat.reduceLT, Nat.reduceLeDiff, Nat.reduceAdd, Nat.reduceMul, Nat.reduceSub, Nat.reduceBEq, Nat.reduceDiv, Int.reduceNeg, Int.reduceLT, Int.reduceLE, Int.reduceEq, Int.reduceToNat, Int.reduceAdd, Int.reduceSub, Int.reduceMul, Int.reduceBEq, Int.reduceBNe, reduceBEq]
    have hfl : [p.mid ++ layIs (p.is.take i), bigL p.is[i].st.toNat 1, bigL p.is[i].gn.toNat 6, p.is[i].d].flatten = p.mid ++ layIs (p.is.take (i + 1)) := by
      rw [take_snoc' hd, layIs_snoc]; simp [It.lay]
    have hll : [p.mid ++ layIs (p.is.take i), bigL p.is[i].st.toNat 1, bigL p.is[i].gn.toNat 6, p.is[i].d].flatten.length = p.mid.length + 135 * (List.take i p.is).length + 135 := by
      simp [hL, bigL_length, dl]; omega
    refine ⟨_, _, ACalls.le1 (Le.list (es := 1) (x := .full 1 _) (xs := encBs [p.mid ++ layIs (p.is.take i), bigL p.is[i].st.toNat 1, bigL p.is[i].gn.toNat 6, p.is[i].d]) rfl) (concat_row_spec _ (by rw [hll]; omega) (by rw [hll]; omega) (by simp) _), ?_⟩
    simp only [go_sem, ↓reduceIte, reduceCtorEq, Nat.reduceEqDiff, Nat.reduceLT, Nat.reduceLeDiff, Nat.reduceAdd, Nat.reduceMul, Nat.reduceSub, Nat.reduceBEq, Nat.reduceDiv, Int.reduceNeg, Int.reduceLT, Int.reduceLE, Int.reduceEq, Int.reduceToNat, Int.reduceAdd, Int.reduceSub, Int.reduceMul, Int.reduceBEq, Int.reduceBNe, reduceBEq, c19_r14, hfl]
    refine ⟨i + 1, by omega, by omega, ?_⟩
    refine Weak.one (hwf.newObj (Rp.avs_lt p _)) (Nat.le_succ _) (by repeat (first | exact Agree.refl _ | refine Agree.newObj ?_ _ | refine Agree.newTok ?_ _ _ _ | refine Agree.killTok ?_ (by first | omega | (simp only [go_sem] <;> omega)) | refine Agree.setObj ?_ (by first | omega | (simp only [go_sem] <;> omega)) _ | refine Agree.dropObj ?_ (by first | omega | (simp only [go_sem] <;> omega)))) (σ.next + 1 + 1 + 1) (by simp only [go_sem, ↓reduceIte, reduceCtorEq, Nat.reduceEqDiff, Nat.reduceLT, Nat.reduceLeDiff, Nat.reduceAdd, Nat.reduceMul, Nat.reduceSub, Nat.reduceBEq, Nat.reduceDiv, Int.reduceNeg, Int.reduceLT, Int.reduceLE, Int.reduceEq, Int.reduceToNat, Int.reduceAdd, Int.reduceSub, Int.reduceMul, Int.reduceBEq, Int.reduceBNe, reduceBEq]) (by simp only [go_sem, ↓reduceIte, reduceCtorEq, Nat.reduceEqDiff, Nat.reduceLT, Nat.reduceLeDiff, Nat.reduceAdd, Nat.reduceMul, Nat.reduceSub, Nat.reduceBEq, Nat.reduceDiv, Int.reduceNeg, Int.reduceLT, Int.reduceLE, Int.reduceEq, Int.reduceToNat, Int.reduceAdd, Int.reduceSub, Int.reduceMul, Int.reduceBEq, Int.reduceBNe, reduceBEq]) ?_
    refine all_cons (.same (by simp only [go_sem, ↓reduceIte, reduceCtorEq, Nat.reduceEqDiff, Nat.reduceLT, Nat.reduceLeDiff, Nat.reduceAdd, Nat.reduceMul, Nat.reduceSub, Nat.reduceBEq, Nat.reduceDiv, Int.reduceNeg, Int.reduceLT, Int.reduceLE, Int.reduceEq, Int.reduceToNat, Int.reduceAdd, Int.reduceSub, Int.reduceMul, Int.reduceBEq, Int.reduceBNe, reduceBEq]; simp)) (all_cons (.row0 rfl) (all_cons (.pv _ _ _) (all_cons (.pv _ _ _) (all_cons (.int _ _ ?_) all_nil))))
    rw [w64 (by omega) (by omega)]; simp
  have hd : i = p.is.length := by omega
  subst hd
  have d1 : decide ((p.is.length : Int) < p.is.length) = false := decide_eq_false (by omega)
  simp only [go_sem, ↓reduceIte, reduceCtorEq, Nat.reduceEqDiff, Nat.reduceLT, Nat.reduceLeDiff, Nat.reduceAdd, Nat.reduceMul, Nat.reduceSub, Nat.reduceBEq, Nat.reduceDiv, Int.reduceNeg, Int.reduceLT, Int.reduceLE, Int.reduceEq, Int.reduceToNat, Int.reduceAdd, Int.reduceSub, Int.reduceMul, Int.reduceBEq, Int.reduceBNe, reduceBEq, c19_l1, c19_r11, d1, c19_r15, List.take_length]
  exact ⟨_, _, _, rfl, WeakV.none hwf (by repeat (first | exact Agree.refl _ | refine Agree.newObj ?_ _ | refine Agree.newTok ?_ _ _ _ | refine Agree.killTok ?_ (by first | omega | (simp only [go_sem] <;> omega)) | refine Agree.setObj ?_ (by first | omega | (simp only [go_sem] <;> omega)) _ | refine Agree.dropObj ?_ (by first | omega | (simp only [go_sem] <;> omega)))) (LeR.of_le (Le.tup2 (Le.list (es := 1) rfl) (.refl _)) (by simp)), rfl, rfl⟩
end Go.Proofs.Ytnanpamfdjnomaa
