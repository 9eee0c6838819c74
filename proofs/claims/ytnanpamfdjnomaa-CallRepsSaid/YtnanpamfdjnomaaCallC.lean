/- call: the reader, From. -/
import Derived.Test.YtnanpamfdjnomaaCallB
namespace Go.Proofs.Ytnanpamfdjnomaa
open Go Go.RowKit Go.Proofs.Ytnanpamfdjnomaa.AL
set_option maxRecDepth 100000
set_option linter.unusedSimpArgs false

/-- A reader's two cells. -/
abbrev rd (l : List UInt8) (lk : Bool) : List AV := [AV.bytes l, .bool lk]
def tk (l : List UInt8) (n : Nat) : List UInt8 := if n ≤ l.length then l.take n else []
def dk (l : List UInt8) (n : Nat) : List UInt8 := if n ≤ l.length then l.drop n else []
def lkk (l : List UInt8) (lk : Bool) (n : Nat) : Bool := if n ≤ l.length then lk else true
theorem tk_le (l : List UInt8) (n : Nat) : (tk l n).length ≤ n := by unfold tk; split <;> simp; omega
theorem dk_le (l : List UInt8) (n : Nat) : (dk l n).length ≤ l.length := by unfold dk; split <;> simp

theorem take_spec (n : Nat) (l : List UInt8) (lk : Bool) (size : Nat) (hl : l.length < 2 ^ 47) (σ : Store) (h : σ.objs n = some (rd l lk)) :
    ACalls Try.prog 33 [.ptr n 0, .int .i64 size] σ (fun x s => x = AV.bytes (tk l size) ∧ s = σ.setObj n (rd (dk l size) (lkk l lk size))) := by
  refine ACalls.of_arun Try.func33 c33_eq c33_n c33_rs (by simp) fun hwf => ?_
  by_cases hs : size ≤ l.length
  · have d1 : decide ((size : Int) > l.length) = false := decide_eq_false (by omega)
    simp only [go_sem, ↓reduceIte, reduceCtorEq, Nat.reduceEqDiff, Nat.reduceLT, Nat.reduceLeDiff, Nat.reduceAdd, Nat.reduceMul, Nat.reduceSub, Nat.reduceBEq, Nat.reduceDiv, Int.reduceNeg, Int.reduceLT, Int.reduceLE, Int.reduceEq, Int.reduceToNat, Int.reduceAdd, Int.reduceSub, Int.reduceMul, Int.reduceBEq, Int.reduceBNe, reduceBEq, c33, c33_r0, c33_r1, h, d1, encB_length]
    simp only [go_sem, ↓reduceIte, reduceCtorEq, Nat.reduceEqDiff, Nat.reduceLT, Nat.reduceLeDiff, Nat.reduceAdd, Nat.reduceMul, Nat.reduceSub, Nat.reduceBEq, Nat.reduceDiv, Int.reduceNeg, Int.reduceLT, Int.reduceLE, Int.reduceEq, Int.reduceToNat, Int.reduceAdd, Int.reduceSub, Int.reduceMul, Int.reduceBEq, Int.reduceBNe, reduceBEq, c33_r4, h, encB_length, encB_take, encB_drop, Int.toNat_natCast]
    refine ⟨by omega, (clone_spec (l.take size) (by simp; omega) _).mono fun y s' hy => ?_⟩
    obtain ⟨rfl, rfl⟩ := hy
    simp only [go_sem, ↓reduceIte, reduceCtorEq, Nat.reduceEqDiff, Nat.reduceLT, Nat.reduceLeDiff, Nat.reduceAdd, Nat.reduceMul, Nat.reduceSub, Nat.reduceBEq, Nat.reduceDiv, Int.reduceNeg, Int.reduceLT, Int.reduceLE, Int.reduceEq, Int.reduceToNat, Int.reduceAdd, Int.reduceSub, Int.reduceMul, Int.reduceBEq, Int.reduceBNe, reduceBEq, c33_r5, c33_r6, h, encB_length, encB_take, encB_drop, Int.toNat_natCast]
    refine ⟨by omega, _, _, _, rfl, WeakV.refl _ _ _, ?_, ?_⟩
    · simp [tk, hs]
    · simp [dk, lkk, hs, encB_drop, encB_take]
  · have d1 : decide ((size : Int) > l.length) = true := decide_eq_true (by omega)
    simp only [go_sem, ↓reduceIte, reduceCtorEq, Nat.reduceEqDiff, Nat.reduceLT, Nat.reduceLeDiff, Nat.reduceAdd, Nat.reduceMul, Nat.reduceSub, Nat.reduceBEq, Nat.reduceDiv, Int.reduceNeg, Int.reduceLT, Int.reduceLE, Int.reduceEq, Int.reduceToNat, Int.reduceAdd, Int.reduceSub, Int.reduceMul, Int.reduceBEq, Int.reduceBNe, reduceBEq, c33, c33_r0, c33_r1, h, d1, encB_length]
    simp only [go_sem, ↓reduceIte, reduceCtorEq, Nat.reduceEqDiff, Nat.reduceLT, Nat.reduceLeDiff, Nat.reduceAdd, Nat.reduceMul, Nat.reduceSub, Nat.reduceBEq, Nat.reduceDiv, Int.reduceNeg, Int.reduceLT, Int.reduceLE, Int.reduceEq, Int.reduceToNat, Int.reduceAdd, Int.reduceSub, Int.reduceMul, Int.reduceBEq, Int.reduceBNe, reduceBEq, c33_r2, c33_r3, h, setObj_setObj]
    refine ⟨_, _, _, rfl, WeakV.leObj (n := n) (cs := [.nil, .bool true]) (ds := [AV.bytes [], .bool true]) (by simp only [go_sem, ↓reduceIte, reduceCtorEq, Nat.reduceEqDiff, Nat.reduceLT, Nat.reduceLeDiff, Nat.reduceAdd, Nat.reduceMul, Nat.reduceSub, Nat.reduceBEq, Nat.reduceDiv, Int.reduceNeg, Int.reduceLT, Int.reduceLE, Int.reduceEq, Int.reduceToNat, Int.reduceAdd, Int.reduceSub, Int.reduceMul, Int.reduceBEq, Int.reduceBNe, reduceBEq]) rfl (le2 (Le.nil 1) (.refl _)) (Le.nil 1), ?_, ?_⟩
    · simp [tk, hs]; rfl
    · simp [dk, lkk, hs, setObj_setObj]

theorem or_byte_i (n c : Nat) (hc : c < 256) (hn : n * 256 + c < 2 ^ 63) :
    IntKind.i64.wrap ((BitVec.ofInt 64 (IntKind.i64.wrap ((n : Int) * 2 ^ 8)) ||| BitVec.ofInt 64 (IntKind.i64.wrap (c : Int))).toNat : Int) = ((n * 256 + c : Nat) : Int) := by
  have e1 : IntKind.i64.wrap ((n : Int) * 2 ^ 8) = ((n * 256 : Nat) : Int) := by rw [w64 (by omega) (by omega)]; omega
  have e2 : IntKind.i64.wrap (c : Int) = (c : Int) := by rw [w64 (by omega) (by omega)]
  rw [e1, e2]
  have e3 : (BitVec.ofInt 64 ((n * 256 : Nat) : Int) ||| BitVec.ofInt 64 (c : Int)).toNat = n * 256 + c := by
    rw [BitVec.toNat_or, BitVec.ofInt_natCast, BitVec.ofInt_natCast, BitVec.toNat_ofNat, BitVec.toNat_ofNat, Nat.mod_eq_of_lt (by omega), Nat.mod_eq_of_lt (by omega)]
    have := Nat.shiftLeft_add_eq_or_of_lt (i := 8) (b := c) (by omega) n
    rw [Nat.shiftLeft_eq] at this
    simpa using this.symm
  rw [e3, w64 (by omega) (by omega)]
theorem numB_small (l : List UInt8) (h : l.length ≤ 7) : numB l < 2 ^ 56 := by
  have := numB_lt l
  have h2 : 256 ^ l.length ≤ 256 ^ 7 := Nat.pow_le_pow_right (by omega) h
  omega
theorem take_snoc {l : List UInt8} {i : Nat} (h : i < l.length) : l.take (i + 1) = l.take i ++ [l[i]] := by rw [List.take_add_one, List.getElem?_eq_getElem h]; rfl

theorem number_spec (n : Nat) (l : List UInt8) (lk : Bool) (size : Nat) (hl : l.length < 2 ^ 47) (h7 : size ≤ 7) (σ : Store) (h : σ.objs n = some (rd l lk)) :
    ACalls Try.prog 32 [.ptr n 0, .int .i64 size] σ (fun x s => x = .int .i64 (numB (tk l size)) ∧ s = σ.setObj n (rd (dk l size) (lkk l lk size))) := by
  refine ACalls.of_arun Try.func32 c32_eq c32_n c32_rs (by simp) fun hwf => ?_
  simp only [go_sem, ↓reduceIte, reduceCtorEq, Nat.reduceEqDiff, Nat.reduceLT, Nat.reduceLeDiff, Nat.reduceAdd, Nat.reduceMul, Nat.reduceSub, Nat.reduceBEq, Nat.reduceDiv, Int.reduceNeg, Int.reduceLT, Int.reduceLE, Int.reduceEq, Int.reduceToNat, Int.reduceAdd, Int.reduceSub, Int.reduceMul, Int.reduceBEq, Int.reduceBNe, reduceBEq, c32, c32_r0, c32_r1]
  simp only [go_sem, ↓reduceIte, reduceCtorEq, Nat.reduceEqDiff, Nat.reduceLT, Nat.reduceLeDiff, Nat.reduceAdd, Nat.reduceMul, Nat.reduceSub, Nat.reduceBEq, Nat.reduceDiv, Int.reduceNeg, Int.reduceLT, Int.reduceLE, Int.reduceEq, Int.reduceToNat, Int.reduceAdd, Int.reduceSub, Int.reduceMul, Int.reduceBEq, Int.reduceBNe, reduceBEq, c32_r2]
  refine (take_spec n l lk size hl _ h).mono fun y s' hy => ?_
  obtain ⟨rfl, rfl⟩ := hy
  have htl := tk_le l size
  generalize tk l size = t at htl
  have hn : n < σ.next := (hwf.obj n _ h).1
  have hwf' : (σ.setObj n (rd (dk l size) (lkk l lk size))).Wf := hwf.setObj hn (by simp)
  simp only [go_sem, ↓reduceIte, reduceCtorEq, Nat.reduceEqDiff, Nat.reduceLT, Nat.reduceLeDiff, Nat.reduceAdd, Nat.reduceMul, Nat.reduceSub, Nat.reduceBEq, Nat.reduceDiv, Int.reduceNeg, Int.reduceLT, Int.reduceLE, Int.reduceEq, Int.reduceToNat, Int.reduceAdd, Int.reduceSub, Int.reduceMul, Int.reduceBEq, Int.reduceBNe, reduceBEq, encB_length]
  refine AWPc.loop (α := Nat) (fun i => [(5, .int .i64 (numB (t.take i))), (10, AV.bytes t), (11, .int .i64 t.length), (12, .int .i64 i)]) (fun _ => σ.setObj n (rd (dk l size) (lkk l lk size))) (fun i => i ≤ t.length) (fun i => t.length - i) ⟨0, Nat.zero_le _, Weak.slots (all_cons rfl (all_cons rfl (all_cons rfl (all_cons rfl all_nil))))⟩ ?_
  intro i hi
  by_cases hd : i < t.length
  · have d1 : decide ((i : Int) < t.length) = true := decide_eq_true (by omega)
    have hb := numB_small (t.take (i + 1)) (by simp; omega)
    rw [take_snoc hd, numB_snoc] at hb
    have hc := t[i].toNat_lt
    simp only [go_sem, ↓reduceIte, reduceCtorEq, Nat.reduceEqDiff, Nat.reduceLT, Nat.reduceLeDiff, Nat.reduceAdd, Nat.reduceMul, Nat.reduceSub, Nat.reduceBEq, Nat.reduceDiv, Int.reduceNeg, Int.reduceLT, Int.reduceLE, Int.reduceEq, Int.reduceToNat, Int.reduceAdd, Int.reduceSub, Int.reduceMul, Int.reduceBEq, Int.reduceBNe, reduceBEq, c32_l0, c32_r3, c32_r4, c32_r5, c32_r6, d1, encB_length, encB_get hd, Int.toNat_natCast]
    refine ⟨by omega, i + 1, by omega, by omega, ?_⟩
    refine Weak.none hwf' (Nat.le_refl _) (Agree.refl _) ?_
    refine all_cons (.int _ _ ?_) (all_cons (.pv _ _ _) (all_cons (.pv _ _ _) (all_cons (.int _ _ ?_) all_nil)))
    · rw [take_snoc hd, numB_snoc]
      exact or_byte_i _ _ (by omega) (by omega)
    · rw [w64 (by omega) (by omega)]; simp
  · have d1 : decide ((i : Int) < t.length) = false := decide_eq_false (by omega)
    have : i = t.length := by omega
    subst this
    simp only [go_sem, ↓reduceIte, reduceCtorEq, Nat.reduceEqDiff, Nat.reduceLT, Nat.reduceLeDiff, Nat.reduceAdd, Nat.reduceMul, Nat.reduceSub, Nat.reduceBEq, Nat.reduceDiv, Int.reduceNeg, Int.reduceLT, Int.reduceLE, Int.reduceEq, Int.reduceToNat, Int.reduceAdd, Int.reduceSub, Int.reduceMul, Int.reduceBEq, Int.reduceBNe, reduceBEq, c32_l0, c32_r3, c32_r7, d1]
    exact ⟨_, _, _, rfl, WeakV.refl _ _ _, by rw [List.take_length], rfl⟩

theorem from_spec (l : List UInt8) (hl : l.length ≤ 7) (σ : Store) : ACalls Try.prog 35 [AV.bytes l] σ (fun x s => x = .int .i64 (numB l) ∧ s = σ) := by
  refine ACalls.of_arun Try.func35 c35_eq c35_n c35_rs (by simp) fun hwf => ?_
  simp only [go_sem, ↓reduceIte, reduceCtorEq, Nat.reduceEqDiff, Nat.reduceLT, Nat.reduceLeDiff, Nat.reduceAdd, Nat.reduceMul, Nat.reduceSub, Nat.reduceBEq, Nat.reduceDiv, Int.reduceNeg, Int.reduceLT, Int.reduceLE, Int.reduceEq, Int.reduceToNat, Int.reduceAdd, Int.reduceSub, Int.reduceMul, Int.reduceBEq, Int.reduceBNe, reduceBEq, c35, c35_r0, c35_r1, c35_r2]
  refine AWPc.loop (α := Nat) (fun i => [(0, AV.bytes l), (3, .int .i64 (numB (l.take i))), (4, .int .i64 i)]) (fun _ => σ) (fun i => i ≤ l.length) (fun i => l.length - i) ⟨0, Nat.zero_le _, Weak.slots (all_cons rfl (all_cons rfl (all_cons rfl all_nil)))⟩ ?_
  intro i hi
  by_cases hd : i < l.length
  · have d1 : decide ((i : Int) < l.length) = true := decide_eq_true (by omega)
    have hb := numB_small (l.take (i + 1)) (by simp; omega)
    rw [take_snoc hd, numB_snoc] at hb
    have hc := l[i].toNat_lt
    simp only [go_sem, ↓reduceIte, reduceCtorEq, Nat.reduceEqDiff, Nat.reduceLT, Nat.reduceLeDiff, Nat.reduceAdd, Nat.reduceMul, Nat.reduceSub, Nat.reduceBEq, Nat.reduceDiv, Int.reduceNeg, Int.reduceLT, Int.reduceLE, Int.reduceEq, Int.reduceToNat, Int.reduceAdd, Int.reduceSub, Int.reduceMul, Int.reduceBEq, Int.reduceBNe, reduceBEq, c35_l0, c35_r3, c35_r4, c35_r5, d1, encB_length, encB_get hd, Int.toNat_natCast]
    refine ⟨by omega, i + 1, by omega, by omega, ?_⟩
    refine Weak.none hwf (Nat.le_refl _) (Agree.refl _) ?_
    refine all_cons (.pv _ _ _) (all_cons (.int _ _ ?_) (all_cons (.int _ _ ?_) all_nil))
    · rw [take_snoc hd, numB_snoc]
      exact or_byte_i _ _ (by omega) (by omega)
    · rw [w64 (by omega) (by omega)]; simp
  · have d1 : decide ((i : Int) < l.length) = false := decide_eq_false (by omega)
    have : i = l.length := by omega
    subst this
    simp only [go_sem, ↓reduceIte, reduceCtorEq, Nat.reduceEqDiff, Nat.reduceLT, Nat.reduceLeDiff, Nat.reduceAdd, Nat.reduceMul, Nat.reduceSub, Nat.reduceBEq, Nat.reduceDiv, Int.reduceNeg, Int.reduceLT, Int.reduceLE, Int.reduceEq, Int.reduceToNat, Int.reduceAdd, Int.reduceSub, Int.reduceMul, Int.reduceBEq, Int.reduceBNe, reduceBEq, c35_l0, c35_r3, c35_r6, d1, encB_length]
    exact ⟨_, _, _, rfl, WeakV.refl _ _ _, by rw [List.take_length], rfl⟩
end Go.Proofs.Ytnanpamfdjnomaa
