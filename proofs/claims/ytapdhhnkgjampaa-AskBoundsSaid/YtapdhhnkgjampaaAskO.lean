/- ask: AskBounds at any arguments. -/
import Derived.Test.YtapdhhnkgjampaaAskN
namespace Go.Proofs.Ytapdhhnkgjampaa
open Go Go.RowKit Go.Proofs.Ytapdhhnkgjampaa.AL

theorem AskBounds_args (x : List PV) (f : FitAll [.int .i64, .int .i64, .int .i64, .int .i64, .int .u64, .int .u64, .sl [.int .u8]] x) (n : Int) (_ : (Lit.int .i64 n).wf = true) (m : Int) (hm : (Lit.int .u8 m).wf = true) (a : Int) (_ : (Lit.int .i64 a).wf = true) :
    ACalls Try.prog 4 [.agg (x.map .pv), .int .i64 n, .int .u8 m, .int .i64 a] store0 (fun x s => x = .bool true ∧ s = store0) := by
  obtain ⟨p1, r1, rfl, h1, h⟩ := f.cons
  obtain ⟨p2, r2, rfl, h2, h⟩ := h.cons
  obtain ⟨p3, r3, rfl, h3, h⟩ := h.cons
  obtain ⟨p4, r4, rfl, h4, h⟩ := h.cons
  obtain ⟨p5, r5, rfl, h5, h⟩ := h.cons
  obtain ⟨p6, r6, rfl, h6, h⟩ := h.cons
  obtain ⟨p7, r7, rfl, h7, h⟩ := h.cons
  obtain rfl := h.nil
  obtain ⟨n1, rfl, w1⟩ := h1.int_inv
  obtain ⟨n2, rfl, w2⟩ := h2.int_inv
  obtain ⟨n3, rfl, w3⟩ := h3.int_inv
  obtain ⟨n4, rfl, w4⟩ := h4.int_inv
  obtain ⟨n5, rfl, w5⟩ := h5.int_inv
  obtain ⟨n6, rfl, w6⟩ := h6.int_inv
  have h7' := h7
  obtain ⟨xs, rfl, _⟩ := h7.sl_inv
  obtain ⟨b, rfl⟩ := h7'.bytes
  have := wf_u64 w5
  have := wf_u64 w6
  obtain ⟨m5, rfl⟩ := Int.eq_ofNat_of_zero_le (wf_u64 w5).1
  obtain ⟨m6, rfl⟩ := Int.eq_ofNat_of_zero_le (wf_u64 w6).1
  have hm' := wf_u8 hm
  have e : m = ((UInt8.ofNat m.toNat).toNat : Int) := by simp; omega
  rw [e]
  exact bounds_spec n1 n2 n3 n4 (wf_i64 w1) (wf_i64 w2) (wf_i64 w3) m5 m6 (by omega) (by omega) b n a (UInt8.ofNat m.toNat) store0
end Go.Proofs.Ytapdhhnkgjampaa
