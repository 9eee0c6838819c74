/- call: how a reply is read: plain. -/
import Derived.Test.YtnanpamfdjnomaaCallK
namespace Go.Proofs.Ytnanpamfdjnomaa
open Go Go.RowKit Go.Proofs.Ytnanpamfdjnomaa.AL
set_option maxRecDepth 100000
set_option linter.unusedSimpArgs false

/-- A reader's state. -/
abbrev RS := List UInt8 × Bool
def RS.nx (r : RS) (n : Nat) : RS := (dk r.1 n, lkk r.1 r.2 n)
def RS.av (r : RS) : List AV := rd r.1 r.2
theorem RS.nx_lt {r : RS} {n m : Nat} (h : r.1.length < m) : (r.nx n).1.length < m := dk_lt h
def pcOf (r : RS) : Pc := ⟨numB (tk r.1 1), numB (tk (r.nx 1).1 6), numB (tk ((r.nx 1).nx 6).1 1), tk (((r.nx 1).nx 6).nx 1).1 32⟩
def pcNx (r : RS) : RS := (((r.nx 1).nx 6).nx 1).nx 32
def itOf (r : RS) : It := ⟨numB (tk r.1 1), numB (tk (r.nx 1).1 6), tk ((r.nx 1).nx 6).1 128⟩
def itNx (r : RS) : RS := ((r.nx 1).nx 6).nx 128
def pcsSt : Nat → RS → RS
  | 0, r => r
  | n + 1, r => pcNx (pcsSt n r)
def pcs : Nat → RS → List Pc
  | 0, _ => []
  | n + 1, r => pcs n r ++ [pcOf (pcsSt n r)]
def itsSt : Nat → RS → RS
  | 0, r => r
  | n + 1, r => itNx (itsSt n r)
def its : Nat → RS → List It
  | 0, _ => []
  | n + 1, r => its n r ++ [itOf (itsSt n r)]
theorem pcs_length (r : RS) : ∀ n, (pcs n r).length = n
  | 0 => rfl
  | n + 1 => by simp [pcs, pcs_length r n]
theorem its_length (r : RS) : ∀ n, (its n r).length = n
  | 0 => rfl
  | n + 1 => by simp [its, its_length r n]
theorem pcNx_lt {r : RS} {m : Nat} (h : r.1.length < m) : (pcNx r).1.length < m := RS.nx_lt (RS.nx_lt (RS.nx_lt (RS.nx_lt h)))
theorem itNx_lt {r : RS} {m : Nat} (h : r.1.length < m) : (itNx r).1.length < m := RS.nx_lt (RS.nx_lt (RS.nx_lt h))
theorem pcsSt_lt {r : RS} {m : Nat} (h : r.1.length < m) : ∀ n, (pcsSt n r).1.length < m
  | 0 => h
  | n + 1 => pcNx_lt (pcsSt_lt h n)
theorem itsSt_lt {r : RS} {m : Nat} (h : r.1.length < m) : ∀ n, (itsSt n r).1.length < m
  | 0 => h
  | n + 1 => itNx_lt (itsSt_lt h n)

abbrev rp0 (b : List UInt8) : RS := (b, false)
abbrev rp3 (b : List UInt8) : RS := (((rp0 b).nx 1).nx 4).nx 1
abbrev rpN (b : List UInt8) : Nat := numB (tk (((rp0 b).nx 1).nx 4).1 1)
abbrev rp4 (b : List UInt8) : RS := pcsSt (rpN b) (rp3 b)
abbrev rpM (b : List UInt8) : Nat := numB (tk (rp4 b).1 1)
abbrev rp5 (b : List UInt8) : RS := (rp4 b).nx 1
def readPE (b : List UInt8) : RS := itsSt (rpM b) (rp5 b)
def readP (b : List UInt8) : Rp := ⟨numB (tk b 1), numB (tk ((rp0 b).nx 1).1 4), pcs (rpN b) (rp3 b), its (rpM b) (rp5 b)⟩
def okRep (b : List UInt8) : Prop := (readP b).right ∧ (readP b).lay = b
instance (b : List UInt8) : Decidable (okRep b) := inferInstanceAs (Decidable (_ ∧ _))
abbrev zrp : Rp := ⟨0, 0, [], []⟩
abbrev AV.pe (p : Rp) (e : Int) : AV := .tup [.agg p.avs, .int .i64 e]

theorem nx_app {a z : List UInt8} {lk : Bool} {n : Nat} (h : a.length = n) : RS.nx (a ++ z, lk) n = (z, lk) := by
  subst h
  simp [RS.nx, dk, lkk]
theorem tk_appS {a z : List UInt8} {n : Nat} (h : a.length = n) : tk (a ++ z) n = a := by
  subst h
  simp [tk]
theorem numB_nat {n : Int} (h0 : 0 ≤ n) {s : Nat} (h : n < 256 ^ s) : ((numB (bigL n.toNat s) : Nat) : Int) = n := by
  obtain ⟨m, rfl⟩ := Int.eq_ofNat_of_zero_le h0
  rw [numB_bigL, Int.toNat_natCast, Nat.mod_eq_of_lt (by exact_mod_cast h)]
theorem pc_parse {p : Pc} (h : p.right) (z : List UInt8) (lk : Bool) : pcOf (p.lay ++ z, lk) = p ∧ pcNx (p.lay ++ z, lk) = (z, lk) := by
  have e : p.lay ++ z = bigL p.st.toNat 1 ++ (bigL p.gn.toNat 6 ++ (bigL p.ix.toNat 1 ++ (p.d ++ z))) := by simp [Pc.lay]
  have l1 := bigL_length p.st.toNat 1
  have l2 := bigL_length p.gn.toNat 6
  have l3 := bigL_length p.ix.toNat 1
  obtain ⟨s1, s2, g1, g2, i1, i2, d1⟩ := h
  constructor
  · unfold pcOf
    rw [e]
    simp only [nx_app l1, nx_app l2, nx_app l3, tk_appS l1, tk_appS l2, tk_appS l3, tk_appS d1]
    rw [numB_nat s1 (by omega), numB_nat (by omega) (by omega), numB_nat i1 (by omega)]
  · unfold pcNx
    rw [e, nx_app l1, nx_app l2, nx_app l3, nx_app d1]
theorem it_parse {p : It} (h : p.right) (z : List UInt8) (lk : Bool) : itOf (p.lay ++ z, lk) = p ∧ itNx (p.lay ++ z, lk) = (z, lk) := by
  have e : p.lay ++ z = bigL p.st.toNat 1 ++ (bigL p.gn.toNat 6 ++ (p.d ++ z)) := by simp [It.lay]
  have l1 := bigL_length p.st.toNat 1
  have l2 := bigL_length p.gn.toNat 6
  obtain ⟨s1, s2, g1, g2, d1⟩ := h
  constructor
  · unfold itOf
    rw [e]
    simp only [nx_app l1, nx_app l2, tk_appS l1, tk_appS l2, tk_appS d1]
    rw [numB_nat s1 (by omega), numB_nat (by omega) (by omega)]
  · unfold itNx
    rw [e, nx_app l1, nx_app l2, nx_app d1]
theorem pcs_pre : ∀ (n : Nat) (a : List Pc), n = a.length → (∀ y ∈ a, y.right) → ∀ (z : List UInt8) (lk : Bool), pcs n (layPs a ++ z, lk) = a ∧ pcsSt n (layPs a ++ z, lk) = (z, lk)
  | 0, a, hn, _, z, lk => by
    have : a = [] := List.length_eq_zero_iff.1 hn.symm
    subst this; exact ⟨rfl, rfl⟩
  | n + 1, a, hn, h, z, lk => by
    rcases List.eq_nil_or_concat a with rfl | ⟨b, p, rfl⟩
    · simp at hn
    have hb : n = b.length := by simp at hn; omega
    have e : layPs (b.concat p) ++ z = layPs b ++ (p.lay ++ z) := by rw [List.concat_eq_append, layPs_snoc, List.append_assoc]
    obtain ⟨h1, h2⟩ := pcs_pre n b hb (fun y hy => h y (by simp [hy])) (p.lay ++ z) lk
    obtain ⟨h3, h4⟩ := pc_parse (h p (by simp)) z lk
    rw [e]
    refine ⟨?_, ?_⟩
    · rw [pcs, h1, h2, h3, List.concat_eq_append]
    · rw [pcsSt, h2, h4]
theorem its_pre : ∀ (n : Nat) (a : List It), n = a.length → (∀ y ∈ a, y.right) → ∀ (z : List UInt8) (lk : Bool), its n (layIs a ++ z, lk) = a ∧ itsSt n (layIs a ++ z, lk) = (z, lk)
  | 0, a, hn, _, z, lk => by
    have : a = [] := List.length_eq_zero_iff.1 hn.symm
    subst this; exact ⟨rfl, rfl⟩
  | n + 1, a, hn, h, z, lk => by
    rcases List.eq_nil_or_concat a with rfl | ⟨b, p, rfl⟩
    · simp at hn
    have hb : n = b.length := by simp at hn; omega
    have e : layIs (b.concat p) ++ z = layIs b ++ (p.lay ++ z) := by rw [List.concat_eq_append, layIs_snoc, List.append_assoc]
    obtain ⟨h1, h2⟩ := its_pre n b hb (fun y hy => h y (by simp [hy])) (p.lay ++ z) lk
    obtain ⟨h3, h4⟩ := it_parse (h p (by simp)) z lk
    rw [e]
    refine ⟨?_, ?_⟩
    · rw [its, h1, h2, h3, List.concat_eq_append]
    · rw [itsSt, h2, h4]
theorem readP_app {p : Rp} (h : p.right) (z : List UInt8) : readP (p.lay ++ z) = p ∧ readPE (p.lay ++ z) = (z, false) := by
  obtain ⟨cd, bt, ps, is⟩ := p
  obtain ⟨hp, hi, c1, c2, b1, b2, p2, i2⟩ := h
  dsimp only at *
  have e : Rp.lay ⟨cd, bt, ps, is⟩ ++ z = bigL cd.toNat 1 ++ (bigL bt.toNat 4 ++ (bigL ps.length 1 ++ (layPs ps ++ (bigL is.length 1 ++ (layIs is ++ z))))) := by simp [Rp.lay, Rp.mid, Rp.hd]
  have l1 := bigL_length cd.toNat 1
  have l2 := bigL_length bt.toNat 4
  have l3 := bigL_length ps.length 1
  have l4 := bigL_length is.length 1
  have n1 : numB (bigL ps.length 1) = ps.length := by rw [numB_bigL]; omega
  have n2 : numB (bigL is.length 1) = is.length := by rw [numB_bigL]; omega
  rw [e]
  obtain ⟨h1, h2⟩ := pcs_pre ps.length ps rfl hp (bigL is.length 1 ++ (layIs is ++ z)) false
  obtain ⟨h3, h4⟩ := its_pre is.length is rfl hi z false
  constructor
  · unfold readP
    simp only [rpN, rpM, rp5, rp4, rp3, rp0, nx_app l1, nx_app l2, nx_app l3, tk_appS l1, tk_appS l2, tk_appS l3, n1, h1, h2, nx_app l4, tk_appS l4, n2, h3]
    rw [numB_nat c1 (by omega), numB_nat b1 (by omega)]
  · unfold readPE
    simp only [rpN, rpM, rp5, rp4, rp3, rp0, nx_app l1, nx_app l2, nx_app l3, tk_appS l1, tk_appS l2, tk_appS l3, n1, h1, h2, nx_app l4, tk_appS l4, n2, h4]
theorem readP_lay {p : Rp} (h : p.right) : readP p.lay = p ∧ readPE p.lay = ([], false) := by
  have := readP_app h []
  rwa [List.append_nil] at this
theorem okRep_lay {p : Rp} (h : p.right) : okRep p.lay := by
  unfold okRep
  rw [(readP_lay h).1]
  exact ⟨h, rfl⟩
theorem okRep_long {p : Rp} (h : p.right) (m : UInt8) : ¬ okRep (p.lay ++ [m]) := by
  intro hk
  have h1 := (readP_app h [m]).2
  have h2 := (readP_lay hk.1).2
  rw [hk.2, h1] at h2
  cases h2
theorem okRep_short {p : Rp} (h : p.right) {n : Nat} (hn : n < p.lay.length) : ¬ okRep (p.lay.take n) := by
  intro hk
  have h1 := (readP_app hk.1 (p.lay.drop n)).2
  rw [hk.2, List.take_append_drop, (readP_lay h).2] at h1
  have h2 := congrArg (fun r : RS => r.1.length) h1
  simp at h2
  omega
theorem okRep_whole {b : List UInt8} (h : okRep b) : (readPE b).2 = false := by
  have := (readP_lay h.1).2
  rw [h.2] at this
  rw [this]
theorem numberS (n : Nat) (r : RS) (size : Nat) (hl : r.1.length < 2 ^ 47) (h7 : size ≤ 7) (σ : Store) (h : σ.objs n = some r.av) :
    ACalls Try.prog 32 [.ptr n 0, .int .i64 size] σ (fun x s => x = .int .i64 (numB (tk r.1 size)) ∧ s = σ.setObj n (r.nx size).av) := number_spec n r.1 r.2 size hl h7 σ h
theorem takeS (n : Nat) (r : RS) (size : Nat) (hl : r.1.length < 2 ^ 47) (σ : Store) (h : σ.objs n = some r.av) :
    ACalls Try.prog 33 [.ptr n 0, .int .i64 size] σ (fun x s => x = AV.bytes (tk r.1 size) ∧ s = σ.setObj n (r.nx size).av) := take_spec n r.1 r.2 size hl σ h
theorem numB_tk1 (l : List UInt8) : numB (tk l 1) ≤ 255 := by
  have := numB_lt (tk l 1)
  have h2 := tk_le l 1
  have : 256 ^ (tk l 1).length ≤ 256 ^ 1 := Nat.pow_le_pow_right (by omega) h2
  omega
end Go.Proofs.Ytnanpamfdjnomaa
