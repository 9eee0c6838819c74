/- AL: addresses in lists and structs, slices of lists, lengths, literals. -/
import Derived.Test.YtnanpamfdjnomaaALOps2
namespace Go.Proofs.Ytnanpamfdjnomaa.AL
open Go Go.RowKit

theorem tFld_spec {P : Program} {t : TypeId} {f o : Nat} (h : tFld P t f = some o) : ∃ fs fd i, P.underlying t = some (.struct fs) ∧ fs[f]? = some fd ∧ P.info? fd.type = some i ∧ i.size ≠ 0 ∧ fd.offset = o := by
  unfold tFld at h
  split at h
  · rename_i fs hu
    split at h
    · rename_i fd hf
      split at h
      · rename_i i hi
        split at h
        · cases h
        · rename_i hs; injection h with h; exact ⟨fs, fd, i, hu, hf, hi, hs, h⟩
      · cases h
    · cases h
  · cases h

def fieldA (P : Program) (t : TypeId) (f : Nat) (x : AV) : Option AV :=
  match tFld P t f with
  | some o => match x with
    | .ptr n off => some (.ptr n (off + o))
    | .ia cs off => some (.ia cs (off + o))
    | _ => none
  | none => none
theorem fieldA_sound {P : Program} {t : TypeId} {f : Nat} {x r : AV} (h : fieldA P t f x = some r) {g : Ghost} {k : Nat} {u : Value} (hx : VR g k x u) (w : World) :
    ∃ v, (Instr.fieldAt t u f).run P w = .ok v w ∧ VR g k r v := by
  unfold fieldA at h
  split at h
  · rename_i o ho
    obtain ⟨fs, fd, i, hu, hf, hi, hs, rfl⟩ := tFld_spec ho
    split at h
    · injection h with h; subst h
      cases hx with
      | ptr hn => exact ⟨_, by simp [Instr.fieldAt, run_underlying hu, hf, Instr.sureAddr, fieldPlace, sizeOf, typeInfo, hi, hs, Addr.add_mk], .ptr hn⟩
    · injection h with h; subst h
      cases hx with
      | ia vs hI hV => exact ⟨_, by simp [Instr.fieldAt, run_underlying hu, hf, Instr.sureAddr, fieldPlace, sizeOf, typeInfo, hi, hs, Addr.add_mk, Nat.add_assoc], .ia vs hI hV⟩
    · cases h
  · cases h

/-- An element's address. -/
def indexA (P : Program) (t : TypeId) (x i : AV) : Option (Prop × AV) :=
  match i with
  | .pv (.val (.int _ n)) => match tSl P t with
    | some (_, es, _) => match x with
      | .sl m off len _ => some (0 ≤ n ∧ n < len, .ptr m (off + n.toNat * es))
      | x => match x.list? es with
        | some xs => some (0 ≤ n ∧ n < xs.length, .ia (xs.getD n.toNat []) 0)
        | none => none
    | none => match P.underlying t with
      | some (.array len e) => match P.info? e with
        | some inf => match x with
          | .ptr m off => some (0 ≤ n ∧ n < len, .ptr m (off + n.toNat * inf.size))
          | .ia cs off => some (0 ≤ n ∧ n < len, .ia cs (off + n.toNat * inf.size))
          | _ => none
        | none => none
      | _ => none
  | _ => none

theorem Flat.ia {g : Ghost} {k es : Nat} {xs : List (List PV)} {cells : List Value} (hf : Flat g.I es xs cells) {b o : Nat} (hI : ∀ (j : Nat) (u : Value), cells[j]? = some u → g.I b (o + j) = some u) {i : Nat} (hi : i < xs.length) :
    VR g k (.ia (xs.getD i []) 0) (.pointer (some ⟨b, o + i * es, none⟩)) := by
  have hx : xs[i]? = some (xs.getD i []) := by simp [List.getD_eq_getElem?_getD, List.getElem?_eq_getElem hi]
  have hw := hf.wide i _ hx
  have := VR.ia (g := g) (k := k) (cs := xs.getD i []) (off := 0) (b := b) (o := o + i * es) (fun j => cells.getD (i * es + j) undef) (fun j y hy => by
    have hj : j < es := by have := getElem?_lt hy; omega
    have hb : i * es + j < cells.length := by rw [hf.len]; have : (i + 1) * es ≤ xs.length * es := Nat.mul_le_mul_right _ hi; rw [Nat.add_mul] at this; omega
    have := hI (i * es + j) (cells.getD (i * es + j) undef) (by simp [List.getD_eq_getElem?_getD, List.getElem?_eq_getElem hb])
    rw [Nat.add_assoc]; exact this) (fun j y hy => hf.el i _ j y hx hy)
  simpa using this

theorem indexA_sound {P : Program} {t : TypeId} {x i r : AV} {c : Prop} (h : indexA P t x i = some (c, r)) (hc : c) {g : Ghost} {k : Nat} {u v : Value} (hx : VR g k x u) (hi : VR g k i v) (w : World) :
    ∃ z, (Instr.indexAt t u v).run P w = .ok z w ∧ VR g k r z := by
  unfold indexA at h
  split at h
  · rename_i kd n
    have := hi.val_eq; subst this
    split at h
    · rename_i e es b ht
      obtain ⟨hu, inf, z, hinf, hz, hzs, hpos, rfl, rfl⟩ := tSl_spec ht
      split at h
      · simp only [Option.some.injEq, Prod.mk.injEq] at h
        obtain ⟨rfl, rfl⟩ := h
        cases hx with
        | sl hn => exact ⟨_, by simp [Instr.indexAt, asIntOf, run_underlying hu, hc, sizeOf, typeInfo, hinf, Addr.add_mk], .ptr hn⟩
      · split at h
        · rename_i xs hxs
          simp only [Option.some.injEq, Prod.mk.injEq] at h
          obtain ⟨rfl, rfl⟩ := h
          obtain ⟨cells, hf, hv⟩ := (hx.list hxs).flat
          rcases hv with ⟨rfl, hnil⟩ | ⟨_, _, _, _, hnil⟩ | ⟨b, o, cap, rfl, hcap, hI⟩
          · rw [hnil] at hc; simp at hc; omega
          · rw [hnil] at hc; simp at hc; omega
          · have hlt : n.toNat < xs.length := by omega
            exact ⟨_, by simp [Instr.indexAt, asIntOf, run_underlying hu, hc, sizeOf, typeInfo, hinf, Addr.add_mk], hf.ia hI hlt⟩
        · cases h
    · split at h
      · rename_i len e hu
        split at h
        · rename_i inf hinf
          split at h
          · simp only [Option.some.injEq, Prod.mk.injEq] at h
            obtain ⟨rfl, rfl⟩ := h
            cases hx with
            | ptr hn => exact ⟨_, by simp [Instr.indexAt, asIntOf, run_underlying hu, Instr.sureAddr, hc, sizeOf, typeInfo, hinf, Addr.add_mk], .ptr hn⟩
          · simp only [Option.some.injEq, Prod.mk.injEq] at h
            obtain ⟨rfl, rfl⟩ := h
            cases hx with
            | ia vs hI hV => exact ⟨_, by simp [Instr.indexAt, asIntOf, run_underlying hu, Instr.sureAddr, hc, sizeOf, typeInfo, hinf, Addr.add_mk, Nat.add_assoc], .ia vs hI hV⟩
          · cases h
        · cases h
      · cases h
  · cases h

/-- A bound of a slice expression. -/
def boundA (d : Int) : Option AV → Option Int
  | none => some d
  | some (.pv (.val (.int _ n))) => some n
  | _ => none

def sliceA (P : Program) (t : TypeId) (x : AV) (lo hi : Option AV) : Option (Prop × AV) :=
  match x with
  | .pv (.val (.string s)) => if tStr P t then
      match boundA 0 lo, boundA s.size hi with
      | some l, some h => some (0 ≤ l ∧ l ≤ h ∧ h ≤ s.size, .pv (.val (.string (s.extract l.toNat h.toNat))))
      | _, _ => none
    else none
  | .sl m off len cap => match tSl P t, boundA 0 lo, boundA len hi with
    | some (_, es, _), some l, some h => some (0 ≤ l ∧ l ≤ h ∧ h ≤ cap ∧ (l = 0 ∨ l < cap), .sl m (off + l.toNat * es) (h - l).toNat (cap - l.toNat))
    | _, _, _ => none
  | .pv (.val (.slice none 0 0)) => match tSl P t, boundA 0 lo, boundA 0 hi with
    | some _, some l, some h => some (l = 0 ∧ h = 0, .pv (.val (.slice none 0 0)))
    | _, _, _ => none
  | x => match tSl P t with
    | some (_, es, _) => match x.list? es with
      | some xs => match boundA 0 lo, boundA xs.length hi with
        | some l, some h => some (0 ≤ l ∧ l ≤ h ∧ h ≤ xs.length, .pv (.lst es ((xs.take h.toNat).drop l.toNat)))
        | _, _ => none
      | none => none
    | none => none

theorem run_sliceBounds {P : Program} {w : World} (isSlice : Bool) (len cap : Nat) {lo hi : Option AV} {lo' hi' : Option Value} {g : Ghost} {k : Nat} {l h : Int}
    (hlo : boundA 0 lo = some l) (hhi : boundA len hi = some h) (rlo : ∀ x, lo = some x → ∃ v, lo' = some v ∧ VR g k x v) (nlo : lo = none → lo' = none) (rhi : ∀ x, hi = some x → ∃ v, hi' = some v ∧ VR g k x v) (nhi : hi = none → hi' = none)
    (h0 : 0 ≤ l) (hlh : l ≤ h) (hc : h ≤ cap) : (Instr.sliceBounds isSlice len cap lo' hi' none).run P w = .ok (l.toNat, h.toNat, cap) w := by
  have hl : ∀ (y : Nat) (code : BoundsCode), l ≤ y → lo' = none ∧ l = 0 ∨ ∃ v, lo' = some v ∧ (Instr.sliceBound v y code).run P w = .ok l.toNat w := by
    intro y code hy
    unfold boundA at hlo
    split at hlo
    · injection hlo with hlo; subst hlo; exact .inl ⟨nlo rfl, rfl⟩
    · injection hlo with hlo; subst hlo
      obtain ⟨v, hv, hr⟩ := rlo _ rfl
      have := hr.val_eq; subst this
      exact .inr ⟨_, hv, by simp [Instr.sliceBound, asIntOf, h0, hy]⟩
    · cases hlo
  have hh : ∀ (code : BoundsCode), hi' = none ∧ h = len ∨ ∃ v, hi' = some v ∧ (Instr.sliceBound v cap code).run P w = .ok h.toNat w := by
    intro code
    unfold boundA at hhi
    split at hhi
    · injection hhi with hhi; subst hhi; exact .inl ⟨nhi rfl, rfl⟩
    · injection hhi with hhi; subst hhi
      obtain ⟨v, hv, hr⟩ := rhi _ rfl
      have := hr.val_eq; subst this
      exact .inr ⟨_, hv, by simp [Instr.sliceBound, asIntOf, hc, show (0 : Int) ≤ _ from Int.le_trans h0 hlh]⟩
    · cases hhi
  unfold Instr.sliceBounds
  rcases hh (if isSlice then .sliceAcap else .sliceAlen) with ⟨rfl, rfl⟩ | ⟨v, rfl, hv⟩
  · rcases hl len .sliceB (by omega) with ⟨rfl, rfl⟩ | ⟨v', rfl, hv'⟩
    · simp
    · simp [hv']
  · rcases hl h.toNat .sliceB (by omega) with ⟨rfl, rfl⟩ | ⟨v', rfl, hv'⟩
    · simp [hv]
    · simp [hv, hv']

theorem Flat.sub {I : Imm} {es : Nat} {xs : List (List PV)} {cells : List Value} (hf : Flat I es xs cells) (l h : Nat) (hlh : l ≤ h) (hh : h ≤ xs.length) :
    Flat I es ((xs.take h).drop l) ((cells.take (h * es)).drop (l * es)) := by
  have hle : h * es ≤ cells.length := by rw [hf.len]; exact Nat.mul_le_mul_right _ hh
  have hll : l * es ≤ h * es := Nat.mul_le_mul_right _ hlh
  refine ⟨by simp [Nat.sub_mul]; rw [Nat.min_eq_left hle, Nat.min_eq_left hh], fun u hu => hf.one u (List.mem_of_mem_take (List.mem_of_mem_drop hu)), fun i x hx => ?_, fun i x j y hx hy => ?_⟩
  · rw [List.getElem?_drop] at hx
    have hlt := getElem?_lt hx
    simp at hlt
    rw [List.getElem?_take_of_lt (by omega)] at hx
    exact hf.wide _ x hx
  · rw [List.getElem?_drop] at hx
    have hlt := getElem?_lt hx
    simp at hlt
    rw [List.getElem?_take_of_lt (by omega)] at hx
    have hw := hf.wide _ x hx
    have hj : j < es := by have := getElem?_lt hy; omega
    have := hf.el _ x j y hx hy
    simp only [List.getD_eq_getElem?_getD, List.getElem?_drop] at this ⊢
    have hb : l * es + (i * es + j) < h * es := by
      have : (l + i + 1) * es ≤ h * es := Nat.mul_le_mul_right _ (by omega)
      rw [Nat.add_mul, Nat.add_mul] at this; omega
    rw [List.getElem?_take_of_lt hb]
    rwa [Nat.add_mul, Nat.add_assoc] at this

theorem sliceA_sound {P : Program} {t : TypeId} {x r : AV} {lo hi : Option AV} {lo' hi' : Option Value} {c : Prop} (h : sliceA P t x lo hi = some (c, r)) (hc : c) {g : Ghost} {k : Nat} {u : Value} (hx : VR g k x u)
    (rlo : ∀ x, lo = some x → ∃ v, lo' = some v ∧ VR g k x v) (nlo : lo = none → lo' = none) (rhi : ∀ x, hi = some x → ∃ v, hi' = some v ∧ VR g k x v) (nhi : hi = none → hi' = none) (w : World) :
    ∃ z, (Instr.sliceAt t u lo' hi' none).run P w = .ok z w ∧ VR g k r z := by
  unfold sliceA at h
  split at h
  · rename_i s
    have := hx.val_eq; subst this
    split at h
    · rename_i ht
      have hu : P.underlying t = some .string := by
        unfold tStr at ht
        split at ht <;> simp_all
      split at h
      · rename_i l hh hl hhi
        simp only [Option.some.injEq, Prod.mk.injEq] at h
        obtain ⟨rfl, rfl⟩ := h
        have hb := run_sliceBounds (P := P) (w := w) false s.size s.size hl hhi rlo nlo rhi nhi hc.1 hc.2.1 hc.2.2
        exact ⟨_, by simp [Instr.sliceAt, run_underlying hu, Instr.slice, hb], .pv (.val _)⟩
      · cases h
    · cases h
  · split at h
    · rename_i _ m off len cap _ _ _ e es b l hh ht hl hhi
      obtain ⟨hu, inf, z, hinf, hz, hzs, hpos, rfl, rfl⟩ := tSl_spec ht
      simp only [Option.some.injEq, Prod.mk.injEq] at h
      obtain ⟨rfl, rfl⟩ := h
      cases hx with
      | sl hn =>
        have hb := run_sliceBounds (P := P) (w := w) true len cap hl hhi rlo nlo rhi nhi hc.1 hc.2.1 hc.2.2.1
        have hne : cap = l.toNat → l.toNat = 0 := by omega
        refine ⟨_, by simp [Instr.sliceAt, run_underlying hu, Instr.slice, hb, sizeOf, typeInfo, hinf]; rfl, ?_⟩
        have h1 : (if cap = l.toNat then some (⟨g.φ m, off, none⟩ : Addr) else some ((⟨g.φ m, off, none⟩ : Addr).add (l.toNat * inf.size))) = some ⟨g.φ m, off + l.toNat * inf.size, none⟩ := by
          split
          · rename_i hq; simp [hne hq]
          · rw [Addr.add_mk]
        rw [h1]
        have h2 : hh.toNat - l.toNat = (hh - l).toNat := by omega
        rw [h2]
        exact .sl hn
    · cases h
  · split at h
    · rename_i q l hh ht hl hhi
      obtain ⟨e, es, b⟩ := q
      obtain ⟨hu, inf, z, hinf, hz, hzs, hpos, rfl, rfl⟩ := tSl_spec ht
      simp only [Option.some.injEq, Prod.mk.injEq] at h
      obtain ⟨rfl, rfl⟩ := h
      have := hx.val_eq; subst this
      obtain ⟨rfl, rfl⟩ := hc
      have hb := run_sliceBounds (P := P) (w := w) true 0 0 hl hhi rlo nlo rhi nhi (by omega) (by omega) (by omega)
      exact ⟨.slice none 0 0, by simp [Instr.sliceAt, run_underlying hu, Instr.slice, hb, sizeOf, typeInfo, hinf], .pv (.val _)⟩
    · cases h
  · split at h
    · rename_i e es b ht
      obtain ⟨hu, inf, z, hinf, hz, hzs, hpos, rfl, rfl⟩ := tSl_spec ht
      split at h
      · rename_i xs hxs
        split at h
        · rename_i l hh hl hhi
          simp only [Option.some.injEq, Prod.mk.injEq] at h
          obtain ⟨rfl, rfl⟩ := h
          obtain ⟨cells, hf, hv⟩ := (hx.list hxs).flat
          have hsub := hf.sub l.toNat hh.toNat (by omega) (by omega)
          have hlen : ((xs.take hh.toNat).drop l.toNat).length = hh.toNat - l.toNat := by simp; omega
          rcases hv with ⟨rfl, hnil⟩ | ⟨a0, cap0, _, rfl, hnil⟩ | ⟨b, o, cap, rfl, hcap, hI⟩
          · subst hnil
            have hb := run_sliceBounds (P := P) (w := w) true 0 0 hl hhi rlo nlo rhi nhi hc.1 hc.2.1 (by simpa using hc.2.2)
            have hl0 : l = 0 := by have := hc.2.2; simp at this; omega
            have hh0 : hh = 0 := by have := hc.2.2; simp at this; omega
            subst hl0; subst hh0
            exact ⟨.slice none 0 0, by simp [Instr.sliceAt, run_underlying hu, Instr.slice, hb, sizeOf, typeInfo, hinf], by simp; exact .pv (.nil _)⟩
          · subst hnil
            have hb := run_sliceBounds (P := P) (w := w) true 0 cap0 hl hhi rlo nlo rhi nhi hc.1 hc.2.1 (by have := hc.2.2; simp at this; omega)
            have hl0 : l = 0 := by have := hc.2.2; simp at this; omega
            have hh0 : hh = 0 := by have := hc.2.2; simp at this; omega
            subst hl0; subst hh0
            by_cases hcl : cap0 = 0
            · subst hcl
              exact ⟨.slice (some a0) 0 0, by simp [Instr.sliceAt, run_underlying hu, Instr.slice, hb, sizeOf, typeInfo, hinf], by simp; exact .pv (.emp _ _ _)⟩
            · exact ⟨_, by simp [Instr.sliceAt, run_underlying hu, Instr.slice, hb, sizeOf, typeInfo, hinf, hcl]; rfl, by simp; exact .pv (.emp _ _ _)⟩
          · have hb := run_sliceBounds (P := P) (w := w) true xs.length cap hl hhi rlo nlo rhi nhi hc.1 hc.2.1 (by omega)
            by_cases hcl : cap = l.toNat
            · have h0 : ((xs.take hh.toNat).drop l.toNat) = [] := List.eq_nil_of_length_eq_zero (by omega)
              subst hcl
              refine ⟨_, by simp [Instr.sliceAt, run_underlying hu, Instr.slice, hb, sizeOf, typeInfo, hinf]; rfl, .pv ?_⟩
              rw [h0, show hh.toNat - l.toNat = ([] : List (List PV)).length by simp; omega]
              exact (Flat.nil _ _).vrp (by simp) (by simp)
            · refine ⟨_, by simp [Instr.sliceAt, run_underlying hu, Instr.slice, hb, sizeOf, typeInfo, hinf, hcl, Addr.add_mk]; rfl, .pv ?_⟩
              rw [← hlen]
              refine hsub.vrp (by omega) fun j u hj => ?_
              rw [List.getElem?_drop] at hj
              have hlt := getElem?_lt hj
              simp at hlt
              rw [List.getElem?_take_of_lt (by omega)] at hj
              have := hI _ u hj
              rwa [← Nat.add_assoc] at this
        · cases h
      · cases h
    · cases h
end Go.Proofs.Ytnanpamfdjnomaa.AL
