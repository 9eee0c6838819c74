/- call: the reference's ReadRep. -/
import Derived.Test.YtnanpamfdjnomaaCallQ
import Derived.Test.YtnanpamfdjnomaaCallO
namespace Go.Proofs.Ytnanpamfdjnomaa
open Go Go.RowKit Go.Proofs.Ytnanpamfdjnomaa.AL
set_option maxRecDepth 100000
set_option linter.unusedSimpArgs false

theorem nx_false {r : RS} {n : Nat} (h : (r.nx n).2 = false) : n ≤ r.1.length ∧ r.2 = false := by
  unfold RS.nx lkk at h
  dsimp only at h
  split at h
  · exact ⟨‹_›, h⟩
  · cases h
theorem nx_len {r : RS} {n : Nat} (h : n ≤ r.1.length) : (r.nx n).1.length = r.1.length - n := by simp [RS.nx, dk, h]
theorem nx_ok {l : List UInt8} {n : Nat} (h : n ≤ l.length) : RS.nx (l, false) n = (l.drop n, false) := by simp [RS.nx, dk, lkk, h]
theorem tk_ok {l : List UInt8} {n : Nat} (h : n ≤ l.length) : tk l n = l.take n := by simp [tk, h]
theorem numB_head {l : List UInt8} (h : 1 ≤ l.length) : numB (tk l 1) = (l.getD 0 0).toNat := by
  rw [tk_ok h]
  cases l with
  | nil => simp at h
  | cons a t => simp [numB]
theorem getD_drop0 (l : List UInt8) (n : Nat) : (l.drop n).getD 0 0 = l.getD n 0 := by simp [List.getD_eq_getElem?_getD]
theorem pcNx_false {r : RS} (h : (pcNx r).2 = false) : 40 ≤ r.1.length ∧ r.2 = false := by
  obtain ⟨a1, b1⟩ := nx_false h
  obtain ⟨a2, b2⟩ := nx_false b1
  obtain ⟨a3, b3⟩ := nx_false b2
  obtain ⟨a4, b4⟩ := nx_false b3
  have l4 := nx_len a4
  have l3 := nx_len a3
  have l2 := nx_len a2
  exact ⟨by omega, b4⟩
theorem itNx_false {r : RS} (h : (itNx r).2 = false) : 135 ≤ r.1.length ∧ r.2 = false := by
  obtain ⟨a1, b1⟩ := nx_false h
  obtain ⟨a2, b2⟩ := nx_false b1
  obtain ⟨a3, b3⟩ := nx_false b2
  have l3 := nx_len a3
  have l2 := nx_len a2
  exact ⟨by omega, b3⟩
theorem pcNx_ok {l : List UInt8} (h : 40 ≤ l.length) : pcNx (l, false) = (l.drop 40, false) ∧ pcOf (l, false) = pcRaw (l.take 40) := by
  have e1 := nx_ok (l := l) (n := 1) (by omega)
  have e2 := nx_ok (l := l.drop 1) (n := 6) (by simp; omega)
  have e3 := nx_ok (l := (l.drop 1).drop 6) (n := 1) (by simp; omega)
  have e4 := nx_ok (l := ((l.drop 1).drop 6).drop 1) (n := 32) (by simp; omega)
  constructor
  · unfold pcNx
    rw [e1, e2, e3, e4, List.drop_drop, List.drop_drop, List.drop_drop]
  · unfold pcOf pcRaw
    rw [e1, e2, e3]
    dsimp only
    rw [numB_head (by omega), numB_head (by simp; omega), tk_ok (by simp; omega), tk_ok (by simp; omega), List.drop_drop, List.drop_drop, getD_drop0, List.take_take, List.drop_take, List.drop_take]
    simp [List.getD_eq_getElem?_getD, List.getElem?_take]
theorem itNx_ok {l : List UInt8} (h : 135 ≤ l.length) : itNx (l, false) = (l.drop 135, false) ∧ itOf (l, false) = ⟨(l.getD 0 0).toNat, numB ((l.take 7).drop 1), (l.take 135).drop 7⟩ := by
  have e1 := nx_ok (l := l) (n := 1) (by omega)
  have e2 := nx_ok (l := l.drop 1) (n := 6) (by simp; omega)
  have e3 := nx_ok (l := (l.drop 1).drop 6) (n := 128) (by simp; omega)
  constructor
  · unfold itNx
    rw [e1, e2, e3, List.drop_drop, List.drop_drop]
  · unfold itOf
    rw [e1, e2]
    dsimp only
    rw [numB_head (by omega), tk_ok (by simp; omega), tk_ok (by simp; omega), List.drop_drop, List.drop_take, List.drop_take]
theorem pcsSt_false {r : RS} : ∀ n, (pcsSt n r).2 = false → ∀ i, i ≤ n → (pcsSt i r).2 = false
  | 0, h, i, hi => by have : i = 0 := by omega
                      subst this; exact h
  | n + 1, h, i, hi => by
    by_cases q : i = n + 1
    · subst q; exact h
    · exact pcsSt_false n (pcNx_false h).2 i (by omega)
theorem itsSt_false {r : RS} : ∀ n, (itsSt n r).2 = false → ∀ i, i ≤ n → (itsSt i r).2 = false
  | 0, h, i, hi => by have : i = 0 := by omega
                      subst this; exact h
  | n + 1, h, i, hi => by
    by_cases q : i = n + 1
    · subst q; exact h
    · exact itsSt_false n (itNx_false h).2 i (by omega)
theorem ok_its {b : List UInt8} (h : okRep b) {i : Nat} (hi : i ≤ rpM b) : (itsSt i (rp5 b)).2 = false := itsSt_false _ (okRep_whole h) i hi
theorem ok_4 {b : List UInt8} (h : okRep b) : 1 ≤ (rp4 b).1.length ∧ (rp4 b).2 = false := nx_false (ok_its h (Nat.zero_le _))
theorem ok_pcs {b : List UInt8} (h : okRep b) {i : Nat} (hi : i ≤ rpN b) : (pcsSt i (rp3 b)).2 = false := pcsSt_false _ (ok_4 h).2 i hi
theorem ok_6 {b : List UInt8} (h : okRep b) : 6 ≤ b.length := by
  have h0 := ok_pcs h (Nat.zero_le _)
  obtain ⟨a1, b1⟩ := nx_false h0
  obtain ⟨a2, b2⟩ := nx_false b1
  obtain ⟨a3, b3⟩ := nx_false b2
  have l3 := nx_len a3
  have l2 := nx_len a2
  dsimp only at *
  omega
theorem rp3_ok {b : List UInt8} (h : 6 ≤ b.length) : rp3 b = (b.drop 6, false) ∧ rpN b = (b.getD 5 0).toNat ∧ numB (tk b 1) = (b.getD 0 0).toNat ∧ numB (tk ((rp0 b).nx 1).1 4) = numB ((b.take 5).drop 1) := by
  have e1 := nx_ok (l := b) (n := 1) (by omega)
  have e2 := nx_ok (l := b.drop 1) (n := 4) (by simp; omega)
  have e3 := nx_ok (l := (b.drop 1).drop 4) (n := 1) (by simp; omega)
  refine ⟨?_, ?_, ?_, ?_⟩
  · rw [rp3, rp0, e1, e2, e3, List.drop_drop, List.drop_drop]
  · rw [rpN, rp0, e1, e2]
    dsimp only
    rw [numB_head (by simp; omega), List.drop_drop, getD_drop0]
  · exact numB_head (by omega)
  · rw [rp0, e1]
    dsimp only
    rw [tk_ok (by simp; omega), List.drop_take]

abbrev AV.pb (p : Rp) (b : Bool) : AV := .tup [.agg p.avs, .bool b]
set_option maxHeartbeats 4000000 in
theorem refReadRep_spec (b : List UInt8) (hb : b.length < 2 ^ 47) (σ : Store) : ACalls Try.prog 24 [AV.bytes b] σ (fun x s => x = (if okRep b then AV.pb (readP b) true else AV.pb zrp false) ∧ s = σ) := by
  refine ACalls.of_awpc Try.func24 c24_eq c24_n c24_rs (by simp) fun hwf => ?_
  have hzz : Le (.tup [.agg [.int .i64 0, .int .i64 0, .nil, .nil], .bool false]) (AV.pb zrp false) := Le.tup2 (Le.agg4 (.refl _) (.refl _) (Le.nil 4) (Le.nil 3)) (.refl _)
  unfold c24
  refine AWPc.step ?_
  simp only [go_sem, ↓reduceIte, reduceCtorEq, Nat.reduceEqDiff, Nat.reduceLT, Nat.reduceLeDiff, Nat.reduceAdd, Nat.reduceMul, Nat.reduceSub, Nat.reduceBEq, Nat.reduceDiv, Int.reduceNeg, Int.reduceLT, Int.reduceLE, Int.reduceEq, Int.reduceToNat, Int.reduceAdd, Int.reduceSub, Int.reduceMul, Int.reduceBEq, Int.reduceBNe, reduceBEq, c24_r0]
  refine AWPc.step ?_
  simp only [go_sem, ↓reduceIte, reduceCtorEq, Nat.reduceEqDiff, Nat.reduceLT, Nat.reduceLeDiff, Nat.reduceAdd, Nat.reduceMul, Nat.reduceSub, Nat.reduceBEq, Nat.reduceDiv, Int.reduceNeg, Int.reduceLT, Int.reduceLE, Int.reduceEq, Int.reduceToNat, Int.reduceAdd, Int.reduceSub, Int.reduceMul, Int.reduceBEq, Int.reduceBNe, reduceBEq, c24_r1]
  refine AWPc.step ?_
  by_cases h6 : b.length < 6
  · have d1 : decide ((b.length : Int) < 6) = true := decide_eq_true (by omega)
    have hno : ¬ okRep b := fun h => by have := ok_6 h; omega
    simp only [go_sem, ↓reduceIte, reduceCtorEq, Nat.reduceEqDiff, Nat.reduceLT, Nat.reduceLeDiff, Nat.reduceAdd, Nat.reduceMul, Nat.reduceSub, Nat.reduceBEq, Nat.reduceDiv, Int.reduceNeg, Int.reduceLT, Int.reduceLE, Int.reduceEq, Int.reduceToNat, Int.reduceAdd, Int.reduceSub, Int.reduceMul, Int.reduceBEq, Int.reduceBNe, reduceBEq, c24_r2, c24_r3, encB_length, d1]
    exact ⟨_, AV.pb zrp false, _, rfl, WeakV.none hwf (by repeat (first | exact Agree.refl _ | refine Agree.newObj ?_ _ | refine Agree.newTok ?_ _ _ _ | refine Agree.killTok ?_ (by first | omega | (simp only [go_sem] <;> omega)) | refine Agree.setObj ?_ (by first | omega | (simp only [go_sem] <;> omega)) _ | refine Agree.dropObj ?_ (by first | omega | (simp only [go_sem] <;> omega)))) (LeR.of_le hzz (by simp)), by rw [if_neg hno], rfl⟩
  have d1 : decide ((b.length : Int) < 6) = false := decide_eq_false (by omega)
  obtain ⟨k3, kN, kc, kb⟩ := rp3_ok (b := b) (by omega)
  have g0 : (encB b).getD 0 [] = [.val (.int .u8 ((b.getD 0 0).toNat : Int))] := by rw [encB_get (by omega)]; simp [List.getD_eq_getElem?_getD, show 0 < b.length by omega]
  have g5 : (encB b).getD 5 [] = [.val (.int .u8 ((b.getD 5 0).toNat : Int))] := by rw [encB_get (by omega)]; simp [List.getD_eq_getElem?_getD, show 5 < b.length by omega]
  have u0 := (b.getD 0 0).toNat_lt
  have u5 := (b.getD 5 0).toNat_lt
  have w0 : IntKind.i64.wrap ((b.getD 0 0).toNat : Int) = ((b.getD 0 0).toNat : Int) := i64n _ (by omega)
  have w5 : IntKind.i64.wrap ((b.getD 5 0).toNat : Int) = ((b.getD 5 0).toNat : Int) := i64n _ (by omega)
  simp only [go_sem, ↓reduceIte, reduceCtorEq, Nat.reduceEqDiff, Nat.reduceLT, Nat.reduceLeDiff, Nat.reduceAdd, Nat.reduceMul, Nat.reduceSub, Nat.reduceBEq, Nat.reduceDiv, Int.reduceNeg, Int.reduceLT, Int.reduceLE, Int.reduceEq, Int.reduceToNat, Int.reduceAdd, Int.reduceSub, Int.reduceMul, Int.reduceBEq, Int.reduceBNe, reduceBEq, c24_r2, encB_length, d1]
  refine AWPc.step ?_
  simp only [go_sem, ↓reduceIte, reduceCtorEq, Nat.reduceEqDiff, Nat.reduceLT, Nat.reduceLeDiff, Nat.reduceAdd, Nat.reduceMul, Nat.reduceSub, Nat.reduceBEq, Nat.reduceDiv, Int.reduceNeg, Int.reduceLT, Int.reduceLE, Int.reduceEq, Int.reduceToNat, Int.reduceAdd, Int.reduceSub, Int.reduceMul, Int.reduceBEq, Int.reduceBNe, reduceBEq]
  refine awpDreg mixed [8, 9] (by kernel_rfl) (by kernel_rfl) fun ops1 => ?_
  simp only [go_sem, ↓reduceIte, reduceCtorEq, Nat.reduceEqDiff, Nat.reduceLT, Nat.reduceLeDiff, Nat.reduceAdd, Nat.reduceMul, Nat.reduceSub, Nat.reduceBEq, Nat.reduceDiv, Int.reduceNeg, Int.reduceLT, Int.reduceLE, Int.reduceEq, Int.reduceToNat, Int.reduceAdd, Int.reduceSub, Int.reduceMul, Int.reduceBEq, Int.reduceBNe, reduceBEq, maxLen, Nat.reducePow, c24_d4_ops, encB_length, encB_take, encB_drop, g0, w0]
  refine ⟨by omega, by omega, dregFn_fn call_35 (fun τ => from_spec ((b.take 5).drop 1) (by simp; omega) τ) (by simp only [go_sem, ↓reduceIte, reduceCtorEq, Nat.reduceEqDiff, Nat.reduceLT, Nat.reduceLeDiff, Nat.reduceAdd, Nat.reduceMul, Nat.reduceSub, Nat.reduceBEq, Nat.reduceDiv, Int.reduceNeg, Int.reduceLT, Int.reduceLE, Int.reduceEq, Int.reduceToNat, Int.reduceAdd, Int.reduceSub, Int.reduceMul, Int.reduceBEq, Int.reduceBNe, reduceBEq]) rfl rfl ?_⟩
  simp only [go_sem, ↓reduceIte, reduceCtorEq, Nat.reduceEqDiff, Nat.reduceLT, Nat.reduceLeDiff, Nat.reduceAdd, Nat.reduceMul, Nat.reduceSub, Nat.reduceBEq, Nat.reduceDiv, Int.reduceNeg, Int.reduceLT, Int.reduceLE, Int.reduceEq, Int.reduceToNat, Int.reduceAdd, Int.reduceSub, Int.reduceMul, Int.reduceBEq, Int.reduceBNe, reduceBEq, maxLen, Nat.reducePow, encB_length, encB_take, encB_drop, g0, w0]
  refine AWPc.step ?_
  simp only [go_sem, ↓reduceIte, reduceCtorEq, Nat.reduceEqDiff, Nat.reduceLT, Nat.reduceLeDiff, Nat.reduceAdd, Nat.reduceMul, Nat.reduceSub, Nat.reduceBEq, Nat.reduceDiv, Int.reduceNeg, Int.reduceLT, Int.reduceLE, Int.reduceEq, Int.reduceToNat, Int.reduceAdd, Int.reduceSub, Int.reduceMul, Int.reduceBEq, Int.reduceBNe, reduceBEq, c24_r5, encB_length, g5, w5]
  refine ⟨by omega, AWPc.step ?_⟩
  simp only [go_sem, ↓reduceIte, reduceCtorEq, Nat.reduceEqDiff, Nat.reduceLT, Nat.reduceLeDiff, Nat.reduceAdd, Nat.reduceMul, Nat.reduceSub, Nat.reduceBEq, Nat.reduceDiv, Int.reduceNeg, Int.reduceLT, Int.reduceLE, Int.reduceEq, Int.reduceToNat, Int.reduceAdd, Int.reduceSub, Int.reduceMul, Int.reduceBEq, Int.reduceBNe, reduceBEq, c24_r6, encB_length, encB_take, encB_drop, List.take_length, Int.toNat_natCast]
  refine ⟨by omega, ?_⟩
  have hPe : readP b = ⟨((b.getD 0 0).toNat : Int), (numB ((b.take 5).drop 1) : Int), pcs (rpN b) (rp3 b), its (rpM b) (rp5 b)⟩ := by unfold readP; rw [kc, kb]
  generalize ((b.getD 0 0).toNat : Int) = cdv at *
  generalize (numB ((b.take 5).drop 1) : Int) = btv at *
  refine AWPc.weak (Weak.fullObj (σ.next + 1) 2 (cs := [.int .i64 cdv, .int .i64 btv, .nil, .nil]) (by simp only [go_sem, ↓reduceIte, reduceCtorEq, Nat.reduceEqDiff, Nat.reduceLT, Nat.reduceLeDiff, Nat.reduceAdd, Nat.reduceMul, Nat.reduceSub, Nat.reduceBEq, Nat.reduceDiv, Int.reduceNeg, Int.reduceLT, Int.reduceLE, Int.reduceEq, Int.reduceToNat, Int.reduceAdd, Int.reduceSub, Int.reduceMul, Int.reduceBEq, Int.reduceBNe, reduceBEq]) rfl 49 4 (xs := []) rfl 0) ?_
  generalize hs0 : Store.setObj (Store.newTok _ _ _ _) _ _ = s0
  have hI0 : PI σ s0 (σ.next + 1) [.int .i64 cdv, .int .i64 btv, .row (σ.next + 1 + 1) 4 (encP (pcs 0 (rp3 b))), .nil] (σ.next + 1 + 1) 49 4 0 := by
    subst hs0
    refine ⟨?_, ?_, by omega, by omega, ?_, ?_⟩
    · simp only [go_sem, ↓reduceIte, reduceCtorEq, Nat.reduceEqDiff, Nat.reduceLT, Nat.reduceLeDiff, Nat.reduceAdd, Nat.reduceMul, Nat.reduceSub, Nat.reduceBEq, Nat.reduceDiv, Int.reduceNeg, Int.reduceLT, Int.reduceLE, Int.reduceEq, Int.reduceToNat, Int.reduceAdd, Int.reduceSub, Int.reduceMul, Int.reduceBEq, Int.reduceBNe, reduceBEq]; rfl
    · simp only [go_sem, ↓reduceIte, reduceCtorEq, Nat.reduceEqDiff, Nat.reduceLT, Nat.reduceLeDiff, Nat.reduceAdd, Nat.reduceMul, Nat.reduceSub, Nat.reduceBEq, Nat.reduceDiv, Int.reduceNeg, Int.reduceLT, Int.reduceLE, Int.reduceEq, Int.reduceToNat, Int.reduceAdd, Int.reduceSub, Int.reduceMul, Int.reduceBEq, Int.reduceBNe, reduceBEq]
    · simp only [go_sem, ↓reduceIte, reduceCtorEq, Nat.reduceEqDiff, Nat.reduceLT, Nat.reduceLeDiff, Nat.reduceAdd, Nat.reduceMul, Nat.reduceSub, Nat.reduceBEq, Nat.reduceDiv, Int.reduceNeg, Int.reduceLT, Int.reduceLE, Int.reduceEq, Int.reduceToNat, Int.reduceAdd, Int.reduceSub, Int.reduceMul, Int.reduceBEq, Int.reduceBNe, reduceBEq]
    · exact (by repeat (first | exact Agree.refl _ | refine Agree.newObj ?_ _ | refine Agree.newTok ?_ _ _ _ | refine Agree.killTok ?_ (by first | omega | (simp only [go_sem] <;> omega)) | refine Agree.setObj ?_ (by first | omega | (simp only [go_sem] <;> omega)) _ | refine Agree.dropObj ?_ (by first | omega | (simp only [go_sem] <;> omega))))
  have hz0 : s0.objs σ.next = some zrpc := by
    subst hs0
    simp only [go_sem, ↓reduceIte, reduceCtorEq, Nat.reduceEqDiff, Nat.reduceLT, Nat.reduceLeDiff, Nat.reduceAdd, Nat.reduceMul, Nat.reduceSub, Nat.reduceBEq, Nat.reduceDiv, Int.reduceNeg, Int.reduceLT, Int.reduceLE, Int.reduceEq, Int.reduceToNat, Int.reduceAdd, Int.reduceSub, Int.reduceMul, Int.reduceBEq, Int.reduceBNe, reduceBEq]
  clear hs0
  refine AWPc.seq (AWPc.block (AWPc.loop (α := Nat × Store × Nat) (fun a => [(0, AV.bytes (pcsSt a.1 (rp3 b)).1), (2, .ptr σ.next 0), (4, AV.bytes b), (5, .ptr (σ.next + 1) 0), (6, .int .i64 ((rpN b : Int) - a.1))]) (fun a => a.2.1)
    (fun a => a.1 ≤ rpN b ∧ (pcsSt a.1 (rp3 b)).2 = false ∧ a.2.1.objs σ.next = some zrpc ∧ PI σ a.2.1 (σ.next + 1) [.int .i64 cdv, .int .i64 btv, .row a.2.2 4 (encP (pcs a.1 (rp3 b))), .nil] a.2.2 49 4 a.1) (fun a => rpN b - a.1)
    ⟨(0, s0, σ.next + 1 + 1), ⟨Nat.zero_le _, by rw [pcsSt, k3], hz0, hI0⟩, Weak.slots (all_cons (by rw [pcsSt, k3]; simp only [go_sem, ↓reduceIte, reduceCtorEq, Nat.reduceEqDiff, Nat.reduceLT, Nat.reduceLeDiff, Nat.reduceAdd, Nat.reduceMul, Nat.reduceSub, Nat.reduceBEq, Nat.reduceDiv, Int.reduceNeg, Int.reduceLT, Int.reduceLE, Int.reduceEq, Int.reduceToNat, Int.reduceAdd, Int.reduceSub, Int.reduceMul, Int.reduceBEq, Int.reduceBNe, reduceBEq]) (all_cons rfl (all_cons rfl (all_cons rfl (all_cons (by simp only [go_sem, ↓reduceIte, reduceCtorEq, Nat.reduceEqDiff, Nat.reduceLT, Nat.reduceLeDiff, Nat.reduceAdd, Nat.reduceMul, Nat.reduceSub, Nat.reduceBEq, Nat.reduceDiv, Int.reduceNeg, Int.reduceLT, Int.reduceLE, Int.reduceEq, Int.reduceToNat, Int.reduceAdd, Int.reduceSub, Int.reduceMul, Int.reduceBEq, Int.reduceBNe, reduceBEq]; rw [kN]; simp) all_nil)))))⟩ ?_))
  have hN : rpN b ≤ 255 := numB_tk1 _
  have hr0 : (rp3 b).1.length < 2 ^ 47 := RS.nx_lt (RS.nx_lt (RS.nx_lt hb))
  rintro ⟨i, s1, t⟩ ⟨hi, hlk, hz, hI⟩
  dsimp only at hi hlk hz hI
  have hst : pcsSt i (rp3 b) = ((pcsSt i (rp3 b)).1, false) := Prod.ext rfl hlk
  have hL : (pcsSt i (rp3 b)).1.length < 2 ^ 47 := pcsSt_lt hr0 i
  have h2 := hI.o
  have h3 := hI.tk
  have hge := hI.ge
  have hnx := hI.nx
  by_cases hd : i < rpN b
  · have d1 : decide ((rpN b : Int) - i > 0) = true := decide_eq_true (by omega)
    simp only [go_sem, ↓reduceIte, reduceCtorEq, Nat.reduceEqDiff, Nat.reduceLT, Nat.reduceLeDiff, Nat.reduceAdd, Nat.reduceMul, Nat.reduceSub, Nat.reduceBEq, Nat.reduceDiv, Int.reduceNeg, Int.reduceLT, Int.reduceLE, Int.reduceEq, Int.reduceToNat, Int.reduceAdd, Int.reduceSub, Int.reduceMul, Int.reduceBEq, Int.reduceBNe, reduceBEq, c24_l0, c24_r7, d1]
    generalize hLe : (pcsSt i (rp3 b)).1 = L at hst hL ⊢
    by_cases h40 : L.length < 40
    · have d2 : decide ((L.length : Int) < 40) = true := decide_eq_true (by omega)
      have hno : ¬ okRep b := fun h => by
        have h1 := ok_pcs h (i := i + 1) (by omega)
        have h2 := (pcNx_false h1).1
        rw [hLe] at h2; omega
      simp only [go_sem, ↓reduceIte, reduceCtorEq, Nat.reduceEqDiff, Nat.reduceLT, Nat.reduceLeDiff, Nat.reduceAdd, Nat.reduceMul, Nat.reduceSub, Nat.reduceBEq, Nat.reduceDiv, Int.reduceNeg, Int.reduceLT, Int.reduceLE, Int.reduceEq, Int.reduceToNat, Int.reduceAdd, Int.reduceSub, Int.reduceMul, Int.reduceBEq, Int.reduceBNe, reduceBEq, c24_r9, c24_r10, encB_length, d2, hz]
      exact ⟨_, AV.pb zrp false, _, rfl, WeakV.none hwf (hI.ag.setObj (Nat.le_refl _) _) (LeR.of_le hzz (by simp)), by rw [if_neg hno], rfl⟩
    · have d2 : decide ((L.length : Int) < 40) = false := decide_eq_false (by omega)
      obtain ⟨q1, q2⟩ := pcNx_ok (l := L) (by omega)
      have hpl := pcs_length (rp3 b) i
      have e : encP (pcs i (rp3 b)) ++ [Pc.cells (pcRaw (L.take 40))] = encP (pcs (i + 1) (rp3 b)) := by rw [pcs, hst, q2]; exact encP_append _ _
      simp only [go_sem, ↓reduceIte, reduceCtorEq, Nat.reduceEqDiff, Nat.reduceLT, Nat.reduceLeDiff, Nat.reduceAdd, Nat.reduceMul, Nat.reduceSub, Nat.reduceBEq, Nat.reduceDiv, Int.reduceNeg, Int.reduceLT, Int.reduceLE, Int.reduceEq, Int.reduceToNat, Int.reduceAdd, Int.reduceSub, Int.reduceMul, Int.reduceBEq, Int.reduceBNe, reduceBEq, c24_r9, encB_length, d2]
      refine awpDreg mixed [6, 8, 1008] (by kernel_rfl) (by kernel_rfl) fun ops1 => ?_
      simp only [go_sem, ↓reduceIte, reduceCtorEq, Nat.reduceEqDiff, Nat.reduceLT, Nat.reduceLeDiff, Nat.reduceAdd, Nat.reduceMul, Nat.reduceSub, Nat.reduceBEq, Nat.reduceDiv, Int.reduceNeg, Int.reduceLT, Int.reduceLE, Int.reduceEq, Int.reduceToNat, Int.reduceAdd, Int.reduceSub, Int.reduceMul, Int.reduceBEq, Int.reduceBNe, reduceBEq, c24_d11_ops, encB_length, encB_take, h2]
      refine ⟨by omega, dregFn_fn call_42 (fun τ => piece_spec (L.take 40) (by simp; omega) (by simp; omega) τ) (by simp only [go_sem, ↓reduceIte, reduceCtorEq, Nat.reduceEqDiff, Nat.reduceLT, Nat.reduceLeDiff, Nat.reduceAdd, Nat.reduceMul, Nat.reduceSub, Nat.reduceBEq, Nat.reduceDiv, Int.reduceNeg, Int.reduceLT, Int.reduceLE, Int.reduceEq, Int.reduceToNat, Int.reduceAdd, Int.reduceSub, Int.reduceMul, Int.reduceBEq, Int.reduceBNe, reduceBEq]) rfl rfl ?_⟩
      simp only [go_sem, ↓reduceIte, reduceCtorEq, Nat.reduceEqDiff, Nat.reduceLT, Nat.reduceLeDiff, Nat.reduceAdd, Nat.reduceMul, Nat.reduceSub, Nat.reduceBEq, Nat.reduceDiv, Int.reduceNeg, Int.reduceLT, Int.reduceLE, Int.reduceEq, Int.reduceToNat, Int.reduceAdd, Int.reduceSub, Int.reduceMul, Int.reduceBEq, Int.reduceBNe, reduceBEq, maxLen, Nat.reducePow, h2, h3, encP_length, hpl, e, c24_r12, encB_length, encB_drop, c24_r8, List.take_length, Int.toNat_natCast]
      refine ⟨⟨by omega, by omega⟩, by omega, ⟨i + 1, ((s1.killTok t).newTok 49 4 (i + 1)).setObj (σ.next + 1) [.int .i64 cdv, .int .i64 btv, .row s1.next 4 (encP (pcs (i + 1) (rp3 b))), .nil], s1.next⟩, ⟨by dsimp only; omega, ?_, ?_, hI.step _ _⟩, by dsimp only; omega, ?_⟩
      · show (pcNx (pcsSt i (rp3 b))).2 = false
        rw [hst, q1]
      · simp only [go_sem, ↓reduceIte, reduceCtorEq, Nat.reduceEqDiff, Nat.reduceLT, Nat.reduceLeDiff, Nat.reduceAdd, Nat.reduceMul, Nat.reduceSub, Nat.reduceBEq, Nat.reduceDiv, Int.reduceNeg, Int.reduceLT, Int.reduceLE, Int.reduceEq, Int.reduceToNat, Int.reduceAdd, Int.reduceSub, Int.reduceMul, Int.reduceBEq, Int.reduceBNe, reduceBEq, hz]
      · refine Weak.slots' rfl (all_cons ?_ (all_cons rfl (all_cons rfl (all_cons rfl (all_cons ?_ all_nil)))))
        · show _ = AV.bytes (pcNx (pcsSt i (rp3 b))).1
          rw [hst, q1]; simp only [go_sem, ↓reduceIte, reduceCtorEq, Nat.reduceEqDiff, Nat.reduceLT, Nat.reduceLeDiff, Nat.reduceAdd, Nat.reduceMul, Nat.reduceSub, Nat.reduceBEq, Nat.reduceDiv, Int.reduceNeg, Int.reduceLT, Int.reduceLE, Int.reduceEq, Int.reduceToNat, Int.reduceAdd, Int.reduceSub, Int.reduceMul, Int.reduceBEq, Int.reduceBNe, reduceBEq]
        · simp only [go_sem, ↓reduceIte, reduceCtorEq, Nat.reduceEqDiff, Nat.reduceLT, Nat.reduceLeDiff, Nat.reduceAdd, Nat.reduceMul, Nat.reduceSub, Nat.reduceBEq, Nat.reduceDiv, Int.reduceNeg, Int.reduceLT, Int.reduceLE, Int.reduceEq, Int.reduceToNat, Int.reduceAdd, Int.reduceSub, Int.reduceMul, Int.reduceBEq, Int.reduceBNe, reduceBEq]
          rw [w64 (by omega) (by omega)]
          have : (rpN b : Int) - i - 1 = (rpN b : Int) - ((i + 1 : Nat) : Int) := by omega
          rw [this]
  have hi : i = rpN b := by omega
  subst hi
  have d1 : decide ((rpN b : Int) - (rpN b : Nat) > 0) = false := decide_eq_false (by omega)
  simp only [go_sem, ↓reduceIte, reduceCtorEq, Nat.reduceEqDiff, Nat.reduceLT, Nat.reduceLeDiff, Nat.reduceAdd, Nat.reduceMul, Nat.reduceSub, Nat.reduceBEq, Nat.reduceDiv, Int.reduceNeg, Int.reduceLT, Int.reduceLE, Int.reduceEq, Int.reduceToNat, Int.reduceAdd, Int.reduceSub, Int.reduceMul, Int.reduceBEq, Int.reduceBNe, reduceBEq, c24_l0, c24_r7, d1]
  generalize hLe : (pcsSt (rpN b) (rp3 b)).1 = L at hst hL ⊢
  have h4e : rp4 b = (L, false) := hst
  refine AWPc.step ?_
  by_cases h1 : L.length < 1
  · have d2 : decide ((L.length : Int) < 1) = true := decide_eq_true (by omega)
    have hno : ¬ okRep b := fun h => by
      have h1 := (ok_4 h).1
      rw [h4e] at h1; dsimp only at h1; omega
    simp only [go_sem, ↓reduceIte, reduceCtorEq, Nat.reduceEqDiff, Nat.reduceLT, Nat.reduceLeDiff, Nat.reduceAdd, Nat.reduceMul, Nat.reduceSub, Nat.reduceBEq, Nat.reduceDiv, Int.reduceNeg, Int.reduceLT, Int.reduceLE, Int.reduceEq, Int.reduceToNat, Int.reduceAdd, Int.reduceSub, Int.reduceMul, Int.reduceBEq, Int.reduceBNe, reduceBEq, c24_r13, c24_r14, encB_length, d2, hz]
    exact ⟨_, AV.pb zrp false, _, rfl, WeakV.none hwf (hI.ag.setObj (Nat.le_refl _) _) (LeR.of_le hzz (by simp)), by rw [if_neg hno], rfl⟩
  have d2 : decide ((L.length : Int) < 1) = false := decide_eq_false (by omega)
  have g0 : (encB L).getD 0 [] = [.val (.int .u8 ((L.getD 0 0).toNat : Int))] := by rw [encB_get (by omega)]; simp [List.getD_eq_getElem?_getD, show 0 < L.length by omega]
  have u0 := (L.getD 0 0).toNat_lt
  have w0 : IntKind.i64.wrap ((L.getD 0 0).toNat : Int) = ((L.getD 0 0).toNat : Int) := i64n _ (by omega)
  have hM : rpM b = (L.getD 0 0).toNat := by rw [rpM, h4e]; exact numB_head (l := L) (by omega)
  have k5 : rp5 b = (L.drop 1, false) := by rw [rp5, h4e]; exact nx_ok (l := L) (by omega)
  simp only [go_sem, ↓reduceIte, reduceCtorEq, Nat.reduceEqDiff, Nat.reduceLT, Nat.reduceLeDiff, Nat.reduceAdd, Nat.reduceMul, Nat.reduceSub, Nat.reduceBEq, Nat.reduceDiv, Int.reduceNeg, Int.reduceLT, Int.reduceLE, Int.reduceEq, Int.reduceToNat, Int.reduceAdd, Int.reduceSub, Int.reduceMul, Int.reduceBEq, Int.reduceBNe, reduceBEq, c24_r13, encB_length, d2]
  refine AWPc.step ?_
  simp only [go_sem, ↓reduceIte, reduceCtorEq, Nat.reduceEqDiff, Nat.reduceLT, Nat.reduceLeDiff, Nat.reduceAdd, Nat.reduceMul, Nat.reduceSub, Nat.reduceBEq, Nat.reduceDiv, Int.reduceNeg, Int.reduceLT, Int.reduceLE, Int.reduceEq, Int.reduceToNat, Int.reduceAdd, Int.reduceSub, Int.reduceMul, Int.reduceBEq, Int.reduceBNe, reduceBEq, c24_r15, encB_length, g0, w0]
  refine ⟨by omega, AWPc.step ?_⟩
  simp only [go_sem, ↓reduceIte, reduceCtorEq, Nat.reduceEqDiff, Nat.reduceLT, Nat.reduceLeDiff, Nat.reduceAdd, Nat.reduceMul, Nat.reduceSub, Nat.reduceBEq, Nat.reduceDiv, Int.reduceNeg, Int.reduceLT, Int.reduceLE, Int.reduceEq, Int.reduceToNat, Int.reduceAdd, Int.reduceSub, Int.reduceMul, Int.reduceBEq, Int.reduceBNe, reduceBEq, c24_r16, encB_length, encB_take, encB_drop, List.take_length, Int.toNat_natCast]
  refine ⟨by omega, ?_⟩
  refine AWPc.weak (Weak.fullObj (σ.next + 1) 3 h2 rfl 52 3 (xs := []) rfl 0) ?_
  generalize hs1 : Store.setObj (Store.newTok _ _ _ _) _ _ = s1'
  have hI1 : PI σ s1' (σ.next + 1) [.int .i64 cdv, .int .i64 btv, .row t 4 (encP (pcs (rpN b) (rp3 b))), .row s1.next 3 (encI (its 0 (rp5 b)))] s1.next 52 3 0 := by
    subst hs1
    refine ⟨?_, ?_, by omega, by omega, ?_, ?_⟩
    · simp only [go_sem, ↓reduceIte, reduceCtorEq, Nat.reduceEqDiff, Nat.reduceLT, Nat.reduceLeDiff, Nat.reduceAdd, Nat.reduceMul, Nat.reduceSub, Nat.reduceBEq, Nat.reduceDiv, Int.reduceNeg, Int.reduceLT, Int.reduceLE, Int.reduceEq, Int.reduceToNat, Int.reduceAdd, Int.reduceSub, Int.reduceMul, Int.reduceBEq, Int.reduceBNe, reduceBEq]; rfl
    · simp only [go_sem, ↓reduceIte, reduceCtorEq, Nat.reduceEqDiff, Nat.reduceLT, Nat.reduceLeDiff, Nat.reduceAdd, Nat.reduceMul, Nat.reduceSub, Nat.reduceBEq, Nat.reduceDiv, Int.reduceNeg, Int.reduceLT, Int.reduceLE, Int.reduceEq, Int.reduceToNat, Int.reduceAdd, Int.reduceSub, Int.reduceMul, Int.reduceBEq, Int.reduceBNe, reduceBEq]
    · simp only [go_sem, ↓reduceIte, reduceCtorEq, Nat.reduceEqDiff, Nat.reduceLT, Nat.reduceLeDiff, Nat.reduceAdd, Nat.reduceMul, Nat.reduceSub, Nat.reduceBEq, Nat.reduceDiv, Int.reduceNeg, Int.reduceLT, Int.reduceLE, Int.reduceEq, Int.reduceToNat, Int.reduceAdd, Int.reduceSub, Int.reduceMul, Int.reduceBEq, Int.reduceBNe, reduceBEq]
    · exact (hI.ag.newTok _ _ _).setObj (by omega) _
  have hz1 : s1'.objs σ.next = some zrpc := by
    subst hs1
    simp only [go_sem, ↓reduceIte, reduceCtorEq, Nat.reduceEqDiff, Nat.reduceLT, Nat.reduceLeDiff, Nat.reduceAdd, Nat.reduceMul, Nat.reduceSub, Nat.reduceBEq, Nat.reduceDiv, Int.reduceNeg, Int.reduceLT, Int.reduceLE, Int.reduceEq, Int.reduceToNat, Int.reduceAdd, Int.reduceSub, Int.reduceMul, Int.reduceBEq, Int.reduceBNe, reduceBEq, hz]
  clear hs1
  have hM2 : rpM b ≤ 255 := numB_tk1 _
  have hr5 : (rp5 b).1.length < 2 ^ 47 := by rw [k5]; simp; omega
  refine AWPc.seq (AWPc.block (AWPc.loop (α := Nat × Store × Nat) (fun a => [(0, AV.bytes (itsSt a.1 (rp5 b)).1), (2, .ptr σ.next 0), (4, AV.bytes b), (5, .ptr (σ.next + 1) 0), (6, .int .i64 ((rpM b : Int) - a.1))]) (fun a => a.2.1)
    (fun a => a.1 ≤ rpM b ∧ (itsSt a.1 (rp5 b)).2 = false ∧ a.2.1.objs σ.next = some zrpc ∧ PI σ a.2.1 (σ.next + 1) [.int .i64 cdv, .int .i64 btv, .row t 4 (encP (pcs (rpN b) (rp3 b))), .row a.2.2 3 (encI (its a.1 (rp5 b)))] a.2.2 52 3 a.1) (fun a => rpM b - a.1)
    ⟨(0, s1', s1.next), ⟨Nat.zero_le _, by rw [itsSt, k5], hz1, hI1⟩, Weak.slots (all_cons (by rw [itsSt, k5]; simp only [go_sem, ↓reduceIte, reduceCtorEq, Nat.reduceEqDiff, Nat.reduceLT, Nat.reduceLeDiff, Nat.reduceAdd, Nat.reduceMul, Nat.reduceSub, Nat.reduceBEq, Nat.reduceDiv, Int.reduceNeg, Int.reduceLT, Int.reduceLE, Int.reduceEq, Int.reduceToNat, Int.reduceAdd, Int.reduceSub, Int.reduceMul, Int.reduceBEq, Int.reduceBNe, reduceBEq]) (all_cons rfl (all_cons rfl (all_cons rfl (all_cons (by simp only [go_sem, ↓reduceIte, reduceCtorEq, Nat.reduceEqDiff, Nat.reduceLT, Nat.reduceLeDiff, Nat.reduceAdd, Nat.reduceMul, Nat.reduceSub, Nat.reduceBEq, Nat.reduceDiv, Int.reduceNeg, Int.reduceLT, Int.reduceLE, Int.reduceEq, Int.reduceToNat, Int.reduceAdd, Int.reduceSub, Int.reduceMul, Int.reduceBEq, Int.reduceBNe, reduceBEq]; rw [hM]; simp) all_nil)))))⟩ ?_))
  clear hI1 hz1 hI h2 h3 hz
  clear s1'
  rintro ⟨i, s2, t'⟩ ⟨hi, hlk2, hz, hI⟩
  dsimp only at hi hlk2 hz hI
  have hst2 : itsSt i (rp5 b) = ((itsSt i (rp5 b)).1, false) := Prod.ext rfl hlk2
  have hL2 : (itsSt i (rp5 b)).1.length < 2 ^ 47 := itsSt_lt hr5 i
  have h2 := hI.o
  have h3 := hI.tk
  by_cases hd : i < rpM b
  · have d1 : decide ((rpM b : Int) - i > 0) = true := decide_eq_true (by omega)
    simp only [go_sem, ↓reduceIte, reduceCtorEq, Nat.reduceEqDiff, Nat.reduceLT, Nat.reduceLeDiff, Nat.reduceAdd, Nat.reduceMul, Nat.reduceSub, Nat.reduceBEq, Nat.reduceDiv, Int.reduceNeg, Int.reduceLT, Int.reduceLE, Int.reduceEq, Int.reduceToNat, Int.reduceAdd, Int.reduceSub, Int.reduceMul, Int.reduceBEq, Int.reduceBNe, reduceBEq, c24_l1, c24_r17, d1]
    generalize hLe2 : (itsSt i (rp5 b)).1 = K at hst2 hL2 ⊢
    by_cases h135 : K.length < 135
    · have d2 : decide ((K.length : Int) < 135) = true := decide_eq_true (by omega)
      have hno : ¬ okRep b := fun h => by
        have h1 := ok_its h (i := i + 1) (by omega)
        have h2 := (itNx_false h1).1
        rw [hLe2] at h2; omega
      simp only [go_sem, ↓reduceIte, reduceCtorEq, Nat.reduceEqDiff, Nat.reduceLT, Nat.reduceLeDiff, Nat.reduceAdd, Nat.reduceMul, Nat.reduceSub, Nat.reduceBEq, Nat.reduceDiv, Int.reduceNeg, Int.reduceLT, Int.reduceLE, Int.reduceEq, Int.reduceToNat, Int.reduceAdd, Int.reduceSub, Int.reduceMul, Int.reduceBEq, Int.reduceBNe, reduceBEq, c24_r19, c24_r20, encB_length, d2, hz]
      exact ⟨_, AV.pb zrp false, _, rfl, WeakV.none hwf (hI.ag.setObj (Nat.le_refl _) _) (LeR.of_le hzz (by simp)), by rw [if_neg hno], rfl⟩
    · have d2 : decide ((K.length : Int) < 135) = false := decide_eq_false (by omega)
      obtain ⟨q1, q2⟩ := itNx_ok (l := K) (by omega)
      have hpl := its_length (rp5 b) i
      have g0 : (encB K).getD 0 [] = [.val (.int .u8 ((K.getD 0 0).toNat : Int))] := by rw [encB_get (by omega)]; simp [List.getD_eq_getElem?_getD, show 0 < K.length by omega]
      have u0 := (K.getD 0 0).toNat_lt
      have w0 : IntKind.i64.wrap ((K.getD 0 0).toNat : Int) = ((K.getD 0 0).toNat : Int) := i64n _ (by omega)
      have e : encI (its i (rp5 b)) ++ [[PV.val (.int .i64 ((K.getD 0 0).toNat : Int)), PV.val (.int .i64 (numB ((K.take 7).drop 1) : Int)), PV.lst 1 (encB ((K.take 135).drop 7))]] = encI (its (i + 1) (rp5 b)) := by rw [its, hst2, q2]; exact encI_append (its i (rp5 b)) ⟨((K.getD 0 0).toNat : Int), (numB ((K.take 7).drop 1) : Int), (K.take 135).drop 7⟩
      simp only [go_sem, ↓reduceIte, reduceCtorEq, Nat.reduceEqDiff, Nat.reduceLT, Nat.reduceLeDiff, Nat.reduceAdd, Nat.reduceMul, Nat.reduceSub, Nat.reduceBEq, Nat.reduceDiv, Int.reduceNeg, Int.reduceLT, Int.reduceLE, Int.reduceEq, Int.reduceToNat, Int.reduceAdd, Int.reduceSub, Int.reduceMul, Int.reduceBEq, Int.reduceBNe, reduceBEq, c24_r19, encB_length, d2]
      refine awpDreg mixed [15, 17, 1017] (by kernel_rfl) (by kernel_rfl) fun ops1 => ?_
      simp only [go_sem, ↓reduceIte, reduceCtorEq, Nat.reduceEqDiff, Nat.reduceLT, Nat.reduceLeDiff, Nat.reduceAdd, Nat.reduceMul, Nat.reduceSub, Nat.reduceBEq, Nat.reduceDiv, Int.reduceNeg, Int.reduceLT, Int.reduceLE, Int.reduceEq, Int.reduceToNat, Int.reduceAdd, Int.reduceSub, Int.reduceMul, Int.reduceBEq, Int.reduceBNe, reduceBEq, maxLen, Nat.reducePow, c24_d21_ops, encB_length, encB_take, encB_drop, g0, w0, h2]
      refine ⟨by omega, by omega, dregFn_fn call_35 (fun τ => from_spec ((K.take 7).drop 1) (by simp; omega) τ) (by simp only [go_sem, ↓reduceIte, reduceCtorEq, Nat.reduceEqDiff, Nat.reduceLT, Nat.reduceLeDiff, Nat.reduceAdd, Nat.reduceMul, Nat.reduceSub, Nat.reduceBEq, Nat.reduceDiv, Int.reduceNeg, Int.reduceLT, Int.reduceLE, Int.reduceEq, Int.reduceToNat, Int.reduceAdd, Int.reduceSub, Int.reduceMul, Int.reduceBEq, Int.reduceBNe, reduceBEq]) rfl rfl ?_⟩
      simp only [go_sem, ↓reduceIte, reduceCtorEq, Nat.reduceEqDiff, Nat.reduceLT, Nat.reduceLeDiff, Nat.reduceAdd, Nat.reduceMul, Nat.reduceSub, Nat.reduceBEq, Nat.reduceDiv, Int.reduceNeg, Int.reduceLT, Int.reduceLE, Int.reduceEq, Int.reduceToNat, Int.reduceAdd, Int.reduceSub, Int.reduceMul, Int.reduceBEq, Int.reduceBNe, reduceBEq, maxLen, Nat.reducePow, encB_length, encB_take, encB_drop, g0, w0, h2]
      refine ⟨by omega, dregFn_app (x := AV.bytes ((K.take 135).drop 7)) (fun τ => AOpc.appList (ys := encB ((K.take 135).drop 7)) tSl_24 rfl ?_ ?_ ?_ ⟨rfl, rfl⟩) rfl rfl ?_⟩
      · simp only [go_sem, ↓reduceIte, reduceCtorEq, Nat.reduceEqDiff, Nat.reduceLT, Nat.reduceLeDiff, Nat.reduceAdd, Nat.reduceMul, Nat.reduceSub, Nat.reduceBEq, Nat.reduceDiv, Int.reduceNeg, Int.reduceLT, Int.reduceLE, Int.reduceEq, Int.reduceToNat, Int.reduceAdd, Int.reduceSub, Int.reduceMul, Int.reduceBEq, Int.reduceBNe, reduceBEq, encB_length, encB_take, encB_drop, List.take_length, Int.toNat_natCast]
      · rw [encB_length]; simp; omega
      · rw [encB_length]; simp [maxLen]; omega
      simp only [go_sem, ↓reduceIte, reduceCtorEq, Nat.reduceEqDiff, Nat.reduceLT, Nat.reduceLeDiff, Nat.reduceAdd, Nat.reduceMul, Nat.reduceSub, Nat.reduceBEq, Nat.reduceDiv, Int.reduceNeg, Int.reduceLT, Int.reduceLE, Int.reduceEq, Int.reduceToNat, Int.reduceAdd, Int.reduceSub, Int.reduceMul, Int.reduceBEq, Int.reduceBNe, reduceBEq, maxLen, Nat.reducePow, h2, h3, encI_length, hpl, e, c24_r22, encB_length, encB_take, encB_drop, c24_r18, List.take_length, Int.toNat_natCast]
      refine ⟨⟨by omega, by omega⟩, by omega, ⟨i + 1, ((s2.killTok t').newTok 52 3 (i + 1)).setObj (σ.next + 1) [.int .i64 cdv, .int .i64 btv, .row t 4 (encP (pcs (rpN b) (rp3 b))), .row s2.next 3 (encI (its (i + 1) (rp5 b)))], s2.next⟩, ⟨by dsimp only; omega, ?_, ?_, hI.step _ _⟩, by dsimp only; omega, ?_⟩
      · show (itNx (itsSt i (rp5 b))).2 = false
        rw [hst2, q1]
      · simp only [go_sem, ↓reduceIte, reduceCtorEq, Nat.reduceEqDiff, Nat.reduceLT, Nat.reduceLeDiff, Nat.reduceAdd, Nat.reduceMul, Nat.reduceSub, Nat.reduceBEq, Nat.reduceDiv, Int.reduceNeg, Int.reduceLT, Int.reduceLE, Int.reduceEq, Int.reduceToNat, Int.reduceAdd, Int.reduceSub, Int.reduceMul, Int.reduceBEq, Int.reduceBNe, reduceBEq, hz]
      · refine Weak.slots' rfl (all_cons ?_ (all_cons rfl (all_cons rfl (all_cons rfl (all_cons ?_ all_nil)))))
        · show _ = AV.bytes (itNx (itsSt i (rp5 b))).1
          rw [hst2, q1]; simp only [go_sem, ↓reduceIte, reduceCtorEq, Nat.reduceEqDiff, Nat.reduceLT, Nat.reduceLeDiff, Nat.reduceAdd, Nat.reduceMul, Nat.reduceSub, Nat.reduceBEq, Nat.reduceDiv, Int.reduceNeg, Int.reduceLT, Int.reduceLE, Int.reduceEq, Int.reduceToNat, Int.reduceAdd, Int.reduceSub, Int.reduceMul, Int.reduceBEq, Int.reduceBNe, reduceBEq]
        · simp only [go_sem, ↓reduceIte, reduceCtorEq, Nat.reduceEqDiff, Nat.reduceLT, Nat.reduceLeDiff, Nat.reduceAdd, Nat.reduceMul, Nat.reduceSub, Nat.reduceBEq, Nat.reduceDiv, Int.reduceNeg, Int.reduceLT, Int.reduceLE, Int.reduceEq, Int.reduceToNat, Int.reduceAdd, Int.reduceSub, Int.reduceMul, Int.reduceBEq, Int.reduceBNe, reduceBEq]
          rw [w64 (by omega) (by omega)]
          have : (rpM b : Int) - i - 1 = (rpM b : Int) - ((i + 1 : Nat) : Int) := by omega
          rw [this]
  have hi : i = rpM b := by omega
  subst hi
  have d1 : decide ((rpM b : Int) - (rpM b : Nat) > 0) = false := decide_eq_false (by omega)
  simp only [go_sem, ↓reduceIte, reduceCtorEq, Nat.reduceEqDiff, Nat.reduceLT, Nat.reduceLeDiff, Nat.reduceAdd, Nat.reduceMul, Nat.reduceSub, Nat.reduceBEq, Nat.reduceDiv, Int.reduceNeg, Int.reduceLT, Int.reduceLE, Int.reduceEq, Int.reduceToNat, Int.reduceAdd, Int.reduceSub, Int.reduceMul, Int.reduceBEq, Int.reduceBNe, reduceBEq, c24_l1, c24_r17, d1]
  have hlp : (readP b).ps.length = rpN b := pcs_length _ _
  have hli : (readP b).is.length = rpM b := its_length _ _
  have hle : Le (.agg [.int .i64 cdv, .int .i64 btv, .row t 4 (encP (pcs (rpN b) (rp3 b))), .row t' 3 (encI (its (rpM b) (rp5 b)))]) (.agg (readP b).avs) := by
    rw [hPe]; exact Le.agg4 (.refl _) (.refl _) (Le.list (es := 4) rfl) (Le.list (es := 3) rfl)
  refine AWPc.seq (AWPc.step ?_)
  simp only [go_sem, ↓reduceIte, reduceCtorEq, Nat.reduceEqDiff, Nat.reduceLT, Nat.reduceLeDiff, Nat.reduceAdd, Nat.reduceMul, Nat.reduceSub, Nat.reduceBEq, Nat.reduceDiv, Int.reduceNeg, Int.reduceLT, Int.reduceLE, Int.reduceEq, Int.reduceToNat, Int.reduceAdd, Int.reduceSub, Int.reduceMul, Int.reduceBEq, Int.reduceBNe, reduceBEq]
  refine awpDregG mixed [] (by kernel_rfl) (by kernel_rfl) fun ops1 hops => ?_
  have g3 : (ops1[3]?).bind (·.dst) = some 84 := hops 3
  simp only [go_sem, ↓reduceIte, reduceCtorEq, Nat.reduceEqDiff, Nat.reduceLT, Nat.reduceLeDiff, Nat.reduceAdd, Nat.reduceMul, Nat.reduceSub, Nat.reduceBEq, Nat.reduceDiv, Int.reduceNeg, Int.reduceLT, Int.reduceLE, Int.reduceEq, Int.reduceToNat, Int.reduceAdd, Int.reduceSub, Int.reduceMul, Int.reduceBEq, Int.reduceBNe, reduceBEq, c24_d23_ops, h2]
  refine dregFn_fn call_22 (fun τ => ACalls.le1 hle (rRight_spec (readP b) (by omega) (by omega) τ)) (by simp only [go_sem, ↓reduceIte, reduceCtorEq, Nat.reduceEqDiff, Nat.reduceLT, Nat.reduceLeDiff, Nat.reduceAdd, Nat.reduceMul, Nat.reduceSub, Nat.reduceBEq, Nat.reduceDiv, Int.reduceNeg, Int.reduceLT, Int.reduceLE, Int.reduceEq, Int.reduceToNat, Int.reduceAdd, Int.reduceSub, Int.reduceMul, Int.reduceBEq, Int.reduceBNe, reduceBEq]) rfl rfl ?_
  by_cases hr : (readP b).right
  · have dr : decide (readP b).right = true := decide_eq_true hr
    simp only [go_sem, ↓reduceIte, reduceCtorEq, Nat.reduceEqDiff, Nat.reduceLT, Nat.reduceLeDiff, Nat.reduceAdd, Nat.reduceMul, Nat.reduceSub, Nat.reduceBEq, Nat.reduceDiv, Int.reduceNeg, Int.reduceLT, Int.reduceLE, Int.reduceEq, Int.reduceToNat, Int.reduceAdd, Int.reduceSub, Int.reduceMul, Int.reduceBEq, Int.reduceBNe, reduceBEq, g3, dr, h2]
    refine dregFn_fn call_23 (fun τ => ACalls.le1 hle (refLayRep_spec (readP b) hr τ)) (by simp only [go_sem, ↓reduceIte, reduceCtorEq, Nat.reduceEqDiff, Nat.reduceLT, Nat.reduceLeDiff, Nat.reduceAdd, Nat.reduceMul, Nat.reduceSub, Nat.reduceBEq, Nat.reduceDiv, Int.reduceNeg, Int.reduceLT, Int.reduceLE, Int.reduceEq, Int.reduceToNat, Int.reduceAdd, Int.reduceSub, Int.reduceMul, Int.reduceBEq, Int.reduceBNe, reduceBEq]) rfl rfl ?_
    simp only [go_sem, ↓reduceIte, reduceCtorEq, Nat.reduceEqDiff, Nat.reduceLT, Nat.reduceLeDiff, Nat.reduceAdd, Nat.reduceMul, Nat.reduceSub, Nat.reduceBEq, Nat.reduceDiv, Int.reduceNeg, Int.reduceLT, Int.reduceLE, Int.reduceEq, Int.reduceToNat, Int.reduceAdd, Int.reduceSub, Int.reduceMul, Int.reduceBEq, Int.reduceBNe, reduceBEq, g3]
    have hse := str_eq (readP b).lay b
    by_cases he : (readP b).lay = b
    · have d2 : (!((strOf (readP b).lay).toList == (strOf b).toList)) = false := by rw [hse, decide_eq_true he]; rfl
      simp only [go_sem, ↓reduceIte, reduceCtorEq, Nat.reduceEqDiff, Nat.reduceLT, Nat.reduceLeDiff, Nat.reduceAdd, Nat.reduceMul, Nat.reduceSub, Nat.reduceBEq, Nat.reduceDiv, Int.reduceNeg, Int.reduceLT, Int.reduceLE, Int.reduceEq, Int.reduceToNat, Int.reduceAdd, Int.reduceSub, Int.reduceMul, Int.reduceBEq, Int.reduceBNe, reduceBEq, g3, d2]
      refine AWPc.of_arun ?_
      simp only [go_sem, ↓reduceIte, reduceCtorEq, Nat.reduceEqDiff, Nat.reduceLT, Nat.reduceLeDiff, Nat.reduceAdd, Nat.reduceMul, Nat.reduceSub, Nat.reduceBEq, Nat.reduceDiv, Int.reduceNeg, Int.reduceLT, Int.reduceLE, Int.reduceEq, Int.reduceToNat, Int.reduceAdd, Int.reduceSub, Int.reduceMul, Int.reduceBEq, Int.reduceBNe, reduceBEq]
      refine AWPc.of_arun ?_
      simp only [go_sem, ↓reduceIte, reduceCtorEq, Nat.reduceEqDiff, Nat.reduceLT, Nat.reduceLeDiff, Nat.reduceAdd, Nat.reduceMul, Nat.reduceSub, Nat.reduceBEq, Nat.reduceDiv, Int.reduceNeg, Int.reduceLT, Int.reduceLE, Int.reduceEq, Int.reduceToNat, Int.reduceAdd, Int.reduceSub, Int.reduceMul, Int.reduceBEq, Int.reduceBNe, reduceBEq, c24_r25, h2, hz]
      exact ⟨_, AV.pb (readP b) true, _, rfl, WeakV.none hwf (hI.ag.setObj (Nat.le_refl _) _) (LeR.of_le (Le.tup2 hle (.refl _)) (by simp)), by rw [if_pos ⟨hr, he⟩], rfl⟩
    · have d2 : (!((strOf (readP b).lay).toList == (strOf b).toList)) = true := by rw [hse, decide_eq_false he]; rfl
      simp only [go_sem, ↓reduceIte, reduceCtorEq, Nat.reduceEqDiff, Nat.reduceLT, Nat.reduceLeDiff, Nat.reduceAdd, Nat.reduceMul, Nat.reduceSub, Nat.reduceBEq, Nat.reduceDiv, Int.reduceNeg, Int.reduceLT, Int.reduceLE, Int.reduceEq, Int.reduceToNat, Int.reduceAdd, Int.reduceSub, Int.reduceMul, Int.reduceBEq, Int.reduceBNe, reduceBEq, g3, d2]
      refine AWPc.of_arun ?_
      simp only [go_sem, ↓reduceIte, reduceCtorEq, Nat.reduceEqDiff, Nat.reduceLT, Nat.reduceLeDiff, Nat.reduceAdd, Nat.reduceMul, Nat.reduceSub, Nat.reduceBEq, Nat.reduceDiv, Int.reduceNeg, Int.reduceLT, Int.reduceLE, Int.reduceEq, Int.reduceToNat, Int.reduceAdd, Int.reduceSub, Int.reduceMul, Int.reduceBEq, Int.reduceBNe, reduceBEq, c24_r24, hz]
      exact ⟨_, AV.pb zrp false, _, rfl, WeakV.none hwf (hI.ag.setObj (Nat.le_refl _) _) (LeR.of_le hzz (by simp)), by rw [if_neg (fun h : okRep b => he h.2)], rfl⟩
  · have dr : decide (readP b).right = false := decide_eq_false hr
    simp only [go_sem, ↓reduceIte, reduceCtorEq, Nat.reduceEqDiff, Nat.reduceLT, Nat.reduceLeDiff, Nat.reduceAdd, Nat.reduceMul, Nat.reduceSub, Nat.reduceBEq, Nat.reduceDiv, Int.reduceNeg, Int.reduceLT, Int.reduceLE, Int.reduceEq, Int.reduceToNat, Int.reduceAdd, Int.reduceSub, Int.reduceMul, Int.reduceBEq, Int.reduceBNe, reduceBEq, g3, dr]
    refine AWPc.of_arun ?_
    simp only [go_sem, ↓reduceIte, reduceCtorEq, Nat.reduceEqDiff, Nat.reduceLT, Nat.reduceLeDiff, Nat.reduceAdd, Nat.reduceMul, Nat.reduceSub, Nat.reduceBEq, Nat.reduceDiv, Int.reduceNeg, Int.reduceLT, Int.reduceLE, Int.reduceEq, Int.reduceToNat, Int.reduceAdd, Int.reduceSub, Int.reduceMul, Int.reduceBEq, Int.reduceBNe, reduceBEq, c24_r24, hz]
    exact ⟨_, AV.pb zrp false, _, rfl, WeakV.none hwf (hI.ag.setObj (Nat.le_refl _) _) (LeR.of_le hzz (by simp)), by rw [if_neg (fun h : okRep b => hr h.1)], rfl⟩
end Go.Proofs.Ytnanpamfdjnomaa
