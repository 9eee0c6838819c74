/- ask: what is laid is told: plain. -/
import Derived.Test.YtapdhhnkgjampaaAskH
namespace Go.Proofs.Ytapdhhnkgjampaa
open Go Go.RowKit Go.Proofs.Ytapdhhnkgjampaa.AL
set_option maxRecDepth 100000
set_option linter.unusedSimpArgs false

theorem numB_two : ∀ (m l : List UInt8), numB (l ++ m) = numB l * 256 ^ m.length + numB m := by
  intro m
  rw [← m.reverse_reverse]
  induction m.reverse with
  | nil => intro l; simp [numB]
  | cons c r ih =>
    intro l
    rw [List.reverse_cons, ← List.append_assoc, numB_snoc, numB_snoc, ih, List.length_append, List.length_singleton, Nat.pow_succ, Nat.add_mul, Nat.mul_assoc, Nat.add_assoc]
theorem numB_cons (c : UInt8) (l : List UInt8) : numB (c :: l) = c.toNat * 256 ^ l.length + numB l := by
  have := numB_two l [c]
  simpa [numB] using this
theorem numB_bigL (n : Nat) : ∀ s, numB (bigL n s) = n % 256 ^ s
  | 0 => by simp [bigL, numB, Nat.mod_one]
  | s + 1 => by
    rw [bigL, numB_cons, numB_bigL n s, bigL_length, Nat.pow_succ, Nat.mod_mul, Nat.add_comm, Nat.mul_comm]
    simp

theorem fld_mid (a m z : List UInt8) (i j : Nat) (hi : a.length = i) (hj : i + m.length = j) : fld (a ++ m ++ z) i j = numB m := by
  subst hi; subst hj
  unfold fld
  rw [List.append_assoc, List.take_append, List.take_of_length_le (by omega), List.drop_append, List.drop_of_length_le (by omega), Nat.sub_self, List.drop_zero, Nat.add_sub_cancel_left, List.nil_append, List.take_left' rfl]

/-- A request, such as is laid. -/
structure Rq where
  fl : Nat
  ty : Nat
  ck : Nat
  off : Nat
  ln : Nat
  d : List UInt8
structure Rq.ok (q : Rq) : Prop where
  fl : q.fl < 65536
  ty : q.ty < 65536
  ck : q.ck < 2 ^ 64
  off : q.off < 2 ^ 64
  ln : q.ln < 4294967296
  w : q.ty = 1 → q.d.length = q.ln ∧ q.ln < 300
  o : q.ty ≠ 1 → q.d = []
def Rq.lay (q : Rq) : List UInt8 := layB q.fl q.ty q.ck q.off q.ln q.d
def Rq.dp (q : Rq) : PV := if q.ty = 1 then .lst 1 (encB q.d) else .val (.slice none 0 0)
def Rq.row (q : Rq) : List PV := [.val (.int .i64 q.fl), .val (.int .i64 q.ty), .val (.int .u64 q.ck), .val (.int .u64 q.off), .val (.int .i64 q.ln), q.dp]
theorem Rq.dp_le {q : Rq} (h : q.ok) : PLe q.dp (.lst 1 (encB q.d)) := by
  unfold Rq.dp
  split
  · exact .refl _
  · rw [h.o ‹_›]; exact .nil 1
theorem Rq.dp_one (q : Rq) : q.dp.one = true := by
  unfold Rq.dp
  split <;> rfl
theorem Rq.lay_length (q : Rq) : q.lay.length = 28 + q.d.length := layB_length ..
theorem Rq.d_le {q : Rq} (h : q.ok) : q.d.length ≤ 300 := by
  by_cases ht : q.ty = 1
  · have := h.w ht; omega
  · rw [h.o ht]; simp

/-- The fields of what is laid, also ahead of other bytes, also cut behind its head. -/
theorem Rq.head {q : Rq} (h : q.ok) (z : List UInt8) (k : Nat) (hk : 28 ≤ k) :
    numB (((q.lay ++ z).take k).take 4) = 627086611 ∧ fld ((q.lay ++ z).take k) 4 6 = q.fl ∧ fld ((q.lay ++ z).take k) 6 8 = q.ty ∧ fld ((q.lay ++ z).take k) 8 16 = q.ck ∧ fld ((q.lay ++ z).take k) 16 24 = q.off ∧ fld ((q.lay ++ z).take k) 24 28 = q.ln := by
  have e : ∀ a b, b ≤ 28 → fld ((q.lay ++ z).take k) a b = fld (q.lay ++ z) a b := fun a b hb => by
    unfold fld; rw [List.take_take, Nat.min_eq_left (by omega)]
  have e0 : ((q.lay ++ z).take k).take 4 = (q.lay ++ z).take 4 := by rw [List.take_take, Nat.min_eq_left (by omega)]
  have f0 : numB ((q.lay ++ z).take 4) = fld (q.lay ++ z) 0 4 := by simp [fld]
  rw [e0, f0, e _ _ (by omega), e _ _ (by omega), e _ _ (by omega), e _ _ (by omega), e _ _ (by omega)]
  have l4 := bigL_length 627086611 4
  have g1 := bigL_length q.fl 2
  have g2 := bigL_length q.ty 2
  have g3 := bigL_length q.ck 8
  have g4 := bigL_length q.off 8
  have g5 := bigL_length q.ln 4
  have hl : q.lay ++ z = bigL 627086611 4 ++ (bigL q.fl 2 ++ (bigL q.ty 2 ++ (bigL q.ck 8 ++ (bigL q.off 8 ++ (bigL q.ln 4 ++ (q.d ++ z)))))) := by simp [Rq.lay, layB]
  have b1 := h.fl
  have b2 := h.ty
  have b3 := h.ck
  have b4 := h.off
  have b5 := h.ln
  refine ⟨?_, ?_, ?_, ?_, ?_, ?_⟩
  · rw [hl]
    have := fld_mid [] (bigL 627086611 4) (bigL q.fl 2 ++ (bigL q.ty 2 ++ (bigL q.ck 8 ++ (bigL q.off 8 ++ (bigL q.ln 4 ++ (q.d ++ z)))))) 0 4 rfl (by omega)
    rw [List.nil_append] at this
    rw [this, numB_bigL]
  · rw [hl, ← List.append_assoc, fld_mid _ _ _ 4 6 l4 (by omega), numB_bigL]; omega
  · rw [hl, ← List.append_assoc, ← List.append_assoc, fld_mid _ _ _ 6 8 (by simp [l4, g1]) (by omega), numB_bigL]; omega
  · rw [hl, ← List.append_assoc, ← List.append_assoc, ← List.append_assoc, fld_mid _ _ _ 8 16 (by simp [l4, g1, g2]) (by omega), numB_bigL]; omega
  · rw [hl, ← List.append_assoc, ← List.append_assoc, ← List.append_assoc, ← List.append_assoc, fld_mid _ _ _ 16 24 (by simp [l4, g1, g2, g3]) (by omega), numB_bigL]; omega
  · rw [hl, ← List.append_assoc, ← List.append_assoc, ← List.append_assoc, ← List.append_assoc, ← List.append_assoc, fld_mid _ _ _ 24 28 (by simp [l4, g1, g2, g3, g4]) (by omega), numB_bigL]; omega

/-- What Next answers of a whole request. -/
theorem next_whole {q : Rq} (h : q.ok) (z : List UInt8) (k : Nat) (hk : q.lay.length ≤ k) (σ : Store) :
    ACalls Try.prog 10 [AV.bytes ((q.lay ++ z).take k)] σ (fun x s => x = AV.res (AV.req q.fl q.ty q.ck q.off q.ln q.d) (q.lay.length : Nat) 0 ∧ s = σ) := by
  have hl := q.lay_length
  obtain ⟨e0, e1, e2, e3, e4, e5⟩ := Rq.head h z k (by omega)
  have h28 : 28 ≤ ((q.lay ++ z).take k).length := by simp; omega
  by_cases ht : q.ty = 1
  · obtain ⟨w1, w2⟩ := h.w ht
    have := next_write _ h28 e0 (by rw [e2, ht]) (by rw [e5]; omega) (by rw [e5]; simp; omega) σ
    rw [e1, e2, e3, e4, e5] at this
    have ed : (((q.lay ++ z).take k).take (28 + q.ln)).drop 28 = q.d := by
      rw [List.take_take, Nat.min_eq_left (by omega), List.take_append_of_le_length (by omega), List.take_of_length_le (by omega)]
      unfold Rq.lay layB
      rw [List.drop_append, List.drop_of_length_le (by simp [bigL_length]), List.nil_append]
      simp [bigL_length]
    rw [ed] at this
    rw [hl, w1]
    exact this
  · have := next_plain _ h28 e0 (by rw [e2]; exact ht) σ
    rw [e1, e2, e3, e4, e5] at this
    have hd := h.o ht
    rw [hl, hd]
    exact this

/-- What Next answers of a part of a request. -/
theorem next_part {q : Rq} (h : q.ok) (z : List UInt8) (k : Nat) (hk : k < q.lay.length) (σ : Store) :
    ACalls Try.prog 10 [AV.bytes ((q.lay ++ z).take k)] σ (fun x s => x = AV.res AV.noReq 0 7 ∧ s = σ) := by
  have hl := q.lay_length
  by_cases h28 : k < 28
  · refine next_short _ (by simp; omega) (fun h4 => ?_) σ
    have h4 : 4 ≤ k := by simp at h4; omega
    obtain ⟨e0, -⟩ := Rq.head h z 28 (Nat.le_refl _)
    rw [List.take_take, Nat.min_eq_left (by omega)] at e0 ⊢
    exact e0
  · obtain ⟨e0, e1, e2, e3, e4, e5⟩ := Rq.head h z k (by omega)
    by_cases ht : q.ty = 1
    · obtain ⟨w1, w2⟩ := h.w ht
      exact next_cut _ (by simp; omega) e0 (by rw [e2, ht]) (by rw [e5]; omega) (by rw [e5]; simp; omega) σ
    · have hd := h.o ht
      rw [hd] at hl
      simp at hl
      omega
end Go.Proofs.Ytapdhhnkgjampaa
