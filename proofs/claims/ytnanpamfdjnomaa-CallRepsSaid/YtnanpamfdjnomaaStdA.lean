/- Std: bytes, numbers, plain. -/
import Derived.Test.YtnanpamfdjnomaaAC
namespace Go.Proofs.Ytnanpamfdjnomaa
open Go Go.RowKit Go.Proofs.Ytnanpamfdjnomaa.AL
set_option maxRecDepth 100000
set_option linter.unusedSimpArgs false

theorem w64 {n : Int} (h0 : -9223372036854775808 ≤ n) (h1 : n ≤ 9223372036854775807) : IntKind.i64.wrap n = n := by
  rw [IntKind.wrap_i64]; omega

def bigL (n : Nat) : Nat → List UInt8
  | 0 => []
  | s + 1 => UInt8.ofNat (n / 256 ^ s) :: bigL n s
theorem bigL_length (n : Nat) : ∀ s, (bigL n s).length = s
  | 0 => rfl
  | s + 1 => by simp [bigL, bigL_length n s]

theorem encB_append (l m : List UInt8) : encB l ++ encB m = encB (l ++ m) := by simp [encB]
theorem encB_length (l : List UInt8) : (encB l).length = l.length := by simp [encB]
theorem encB_one (b : UInt8) : [[PV.val (.int .u8 (b.toNat : Int))]] = encB [b] := rfl

theorem byte_shr (n k : Nat) : IntKind.u8.wrap ((n : Int).fdiv (2 ^ (8 * k))) = ((UInt8.ofNat (n / 256 ^ k)).toNat : Int) := by
  have h : ((n : Int).fdiv (2 ^ (8 * k))) = ((n / 256 ^ k : Nat) : Int) := by
    have e : (2 : Int) ^ (8 * k) = ((256 ^ k : Nat) : Int) := by
      rw [show (256 : Nat) = 2 ^ 8 from rfl, ← Nat.pow_mul]
      simp
    rw [e, Int.fdiv_eq_ediv_of_nonneg _ (Int.natCast_nonneg _)]
    simp
  rw [h]
  simp [IntKind.wrap, IntKind.signed, IntKind.bits]
theorem encB_inj {l m : List UInt8} (h : encB l = encB m) : l = m := by
  have := congrArg bytes? h
  simpa [bytes?_encB] using this
theorem encB_nil : encB [] = [] := rfl
theorem encB_get {l : List UInt8} {i : Nat} (h : i < l.length) : (encB l).getD i [] = [.val (.int .u8 ((l[i].toNat : Nat) : Int))] := by
  simp [encB, List.getD_eq_getElem?_getD, h]
theorem encB_take (l : List UInt8) (n : Nat) : (encB l).take n = encB (l.take n) := by simp [encB]
theorem encB_drop (l : List UInt8) (n : Nat) : (encB l).drop n = encB (l.drop n) := by simp [encB]

def numB (l : List UInt8) : Nat := l.foldl (fun n c => n * 256 + c.toNat) 0
theorem numB_append (l m : List UInt8) : numB (l ++ m) = m.foldl (fun n c => n * 256 + c.toNat) (numB l) := by simp [numB]
theorem numB_snoc (l : List UInt8) (c : UInt8) : numB (l ++ [c]) = numB l * 256 + c.toNat := by simp [numB_append]
theorem numB_lt : ∀ (l : List UInt8), numB l < 256 ^ l.length := by
  intro l
  rw [← l.reverse_reverse]
  induction l.reverse with
  | nil => decide
  | cons c r ih =>
    rw [List.reverse_cons, numB_snoc, List.length_append, List.length_singleton, Nat.pow_succ]
    have := c.toNat_lt
    omega
/-- What Pick answers. -/
def pick (x n : Int) : Int := let r := x.tmod n; if r < 0 then IntKind.i64.wrap (r + n) else r
theorem pick_pos (x n : Int) (hn : 0 < n) (hn' : n ≤ 9223372036854775807) : pick x n = x.emod n := by
  unfold pick
  have h1 := Int.tmod_eq_emod (a := x) (b := n)
  have h2 := Int.emod_nonneg x (Int.ne_of_gt hn)
  have h3 := Int.emod_lt_of_pos x hn
  have h4 : (n.natAbs : Int) = n := by omega
  have e : x.emod n = x % n := rfl
  rw [e]
  dsimp only
  split
  · rename_i h
    split at h1
    · omega
    · rw [w64 (by omega) (by omega)]; omega
  · rename_i h
    split at h1
    · omega
    · omega
def psB (l : List UInt8) : List PV := l.map fun b => .val (.int .u8 (b.toNat : Int))
theorem psB_encB (l : List UInt8) : (psB l).map ([·]) = encB l := by simp [psB, encB]
def objB (l : List UInt8) : List AV := (psB l).map .pv
theorem objB_length (l : List UInt8) : (objB l).length = l.length := by simp [objB, psB]
theorem psB_one (l : List UInt8) : ∀ p ∈ psB l, p.one = true := by
  intro p hp
  simp only [psB, List.mem_map] at hp
  obtain ⟨b, _, rfl⟩ := hp
  rfl
theorem objB_lt (k : Nat) (l : List UInt8) : ∀ y ∈ objB l, AV.Lt k y := by
  intro y hy
  simp only [objB, List.mem_map] at hy
  obtain ⟨p, _, rfl⟩ := hy
  exact .pv p
theorem objB_replicate (n : Nat) : List.replicate n (AV.pv (.val (.int .u8 0))) = objB (List.replicate n 0) := by simp [objB, psB]
theorem u8_byte (z : Int) : IntKind.u8.wrap z = ((UInt8.ofNat (IntKind.u8.wrap z).toNat).toNat : Int) := by
  simp [IntKind.wrap, IntKind.signed, IntKind.bits]; omega
theorem objB_set (l : List UInt8) (i : Nat) (hi : i < l.length) (b : UInt8) : (objB l).take i ++ [AV.pv (.val (.int .u8 (b.toNat : Int)))] ++ (objB l).drop (i + 1) = objB (l.set i b) := by
  rw [List.set_eq_take_append_cons_drop, if_pos hi]
  simp [objB, psB]

/-- A list of bytes, as an argument is told. -/
abbrev AV.bytes (l : List UInt8) : AV := .pv (.lst 1 (encB l))

theorem settleB {k0 : Nat} {σ τ : Store} {l : List UInt8} (hwf : σ.Wf) (hk : k0 = σ.next) (hτ : τ = σ.newObj (objB l)) {n cap : Nat} (hn : l.length = n) (hcap : n ≤ cap) : WeakV k0 (.sl σ.next 0 n cap) τ (AV.bytes l) σ := by
  subst hτ; subst hk
  have h := WeakV.settle (k0 := σ.next) (σ := σ.newObj (objB l)) (n := σ.next) (off := 0) (len := n) (cap := cap) (ps := psB l) (by simp [Store.newObj, objB]) (psB_one l) (by simp [psB]; omega) hcap
  have e : (((psB l).drop 0).take n).map ([·]) = encB l := by
    rw [List.drop_zero, List.take_of_length_le (by simp [psB]; omega), psB_encB]
  rw [e] at h
  exact h.trans (WeakV.none hwf (((Agree.refl _).newObj _).dropObj (Nat.le_refl _)) (.pv _ _ _))
/-- Lists of bytes, as a slice of slices is told. -/
def encBs (L : List (List UInt8)) : List (List PV) := L.map fun l => [.lst 1 (encB l)]
theorem encBs_get {L : List (List UInt8)} {i : Nat} (h : i < L.length) : (encBs L).getD i [] = [.lst 1 (encB L[i])] := by
  simp [encBs, List.getD_eq_getElem?_getD, h]
theorem encBs_length (L : List (List UInt8)) : (encBs L).length = L.length := by simp [encBs]

theorem flat_take {L : List (List UInt8)} {i : Nat} (h : i < L.length) : (L.take (i + 1)).flatten = (L.take i).flatten ++ L[i] := by
  rw [List.take_add_one, List.getElem?_eq_getElem h]
  simp only [Option.toList_some, List.flatten_append, List.flatten_cons, List.flatten_nil, List.append_nil]
theorem flat_le (L : List (List UInt8)) (i : Nat) : (L.take i).flatten.length ≤ L.flatten.length := by
  have : L.flatten = (L.take i).flatten ++ (L.drop i).flatten := by rw [← List.flatten_append, List.take_append_drop]
  rw [this, List.length_append]; omega
theorem pick_lt (x n : Int) (hn : 0 < n) (hn' : n ≤ 9223372036854775807) : 0 ≤ pick x n ∧ pick x n < n := by
  rw [pick_pos x n hn hn']
  exact ⟨Int.emod_nonneg x (Int.ne_of_gt hn), Int.emod_lt_of_pos x hn⟩
def i64b (n : Int) : Prop := -9223372036854775808 ≤ n ∧ n ≤ 9223372036854775807
theorem wrap_b (n : Int) : i64b (IntKind.i64.wrap n) := by rw [IntKind.wrap_i64]; unfold i64b; omega
theorem wrap_u (n : Int) : 0 ≤ IntKind.u64.wrap n ∧ IntKind.u64.wrap n < 2 ^ 64 := by
  rw [IntKind.wrap_u64]; omega
theorem pick_nat (x : Int) (m : Nat) (h0 : 0 < m) (hm : m ≤ 9223372036854775807) : ∃ n : Nat, pick x m = n ∧ n < m := by
  obtain ⟨h1, h2⟩ := pick_lt x m (by omega) (by omega)
  exact ⟨(pick x m).toNat, by omega, by omega⟩
theorem numB_inj : ∀ (l m : List UInt8), l.length = m.length → numB l = numB m → l = m := by
  intro l
  rw [← l.reverse_reverse]
  induction l.reverse with
  | nil => intro m h _; simp at h; exact (List.eq_nil_of_length_eq_zero h.symm).symm
  | cons c r ih =>
    intro m h hn
    rw [← m.reverse_reverse] at h hn ⊢
    cases hm : m.reverse with
    | nil => rw [hm] at h; simp at h
    | cons d s =>
      rw [hm] at h hn
      rw [List.reverse_cons, List.reverse_cons, numB_snoc, numB_snoc] at hn
      simp only [List.reverse_cons, List.length_append, List.length_singleton, Nat.add_right_cancel_iff] at h
      have h1 := c.toNat_lt
      have h2 := d.toNat_lt
      have e1 : numB r.reverse = numB s.reverse := by omega
      have e2 : c.toNat = d.toNat := by omega
      rw [List.reverse_cons, List.reverse_cons, ih s.reverse h e1, UInt8.toNat_inj.1 e2]
theorem u8_xor (a b : UInt8) : IntKind.u8.wrap ((BitVec.ofInt IntKind.u8.bits (a.toNat : Int) ^^^ BitVec.ofInt IntKind.u8.bits (b.toNat : Int)).toNat : Int) = ((a ^^^ b).toNat : Int) := by
  have e : (BitVec.ofInt IntKind.u8.bits (a.toNat : Int) ^^^ BitVec.ofInt IntKind.u8.bits (b.toNat : Int)).toNat = (a ^^^ b).toNat := by
    show (BitVec.ofInt 8 (a.toNat : Int) ^^^ BitVec.ofInt 8 (b.toNat : Int)).toNat = _
    rw [BitVec.toNat_xor, BitVec.ofInt_natCast, BitVec.ofInt_natCast, BitVec.toNat_ofNat, BitVec.toNat_ofNat, UInt8.toNat_xor, Nat.mod_eq_of_lt a.toNat_lt, Nat.mod_eq_of_lt b.toNat_lt]
  rw [e]
  have := (a ^^^ b).toNat_lt
  generalize (a ^^^ b).toNat = t at this ⊢
  simp [IntKind.wrap, IntKind.signed, IntKind.bits]
  omega
theorem objB_get {l : List UInt8} {i : Nat} (h : i < l.length) : (objB l)[i]? = some (.pv (.val (.int .u8 (l[i].toNat : Int)))) := by
  simp [objB, psB, h]
theorem objB_app (l m : List UInt8) : objB l ++ objB m = objB (l ++ m) := by simp [objB, psB]
theorem psB_encB_take (l : List UInt8) (n : Nat) : ((psB l).take n).map ([·]) = encB (l.take n) := by rw [← encB_take, ← psB_encB, List.map_take]
theorem xor_ne (a b : UInt8) (h : b ≠ 0) : a ^^^ b ≠ a := fun e => h (by
  have h2 : a ^^^ (a ^^^ b) = a ^^^ a := by rw [e]
  rwa [← UInt8.xor_assoc, UInt8.xor_self, UInt8.zero_xor] at h2)
theorem numB_two : ∀ (m l : List UInt8), numB (l ++ m) = numB l * 256 ^ m.length + numB m := by
  intro m
  rw [← m.reverse_reverse]
  induction m.reverse with
  | nil => intro l; simp [numB]
  | cons c r ih =>
    intro l
    rw [List.reverse_cons, ← List.append_assoc, numB_snoc, numB_snoc, ih, List.length_append, List.length_singleton, Nat.pow_succ, Nat.add_mul, Nat.mul_assoc, Nat.add_assoc]
theorem numB_cons (c : UInt8) (l : List UInt8) : numB (c :: l) = c.toNat * 256 ^ l.length + numB l := by
  have := numB_two l [c]
  simpa [numB] using this
theorem numB_bigL (n : Nat) : ∀ s, numB (bigL n s) = n % 256 ^ s
  | 0 => by simp [bigL, numB, Nat.mod_one]
  | s + 1 => by
    rw [bigL, numB_cons, numB_bigL n s, bigL_length, Nat.pow_succ, Nat.mod_mul, Nat.add_comm, Nat.mul_comm]
    simp
end Go.Proofs.Ytnanpamfdjnomaa
