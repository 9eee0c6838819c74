/- AL: addresses, loads, stores, new variables. -/
import Derived.Test.YtnanpamfdjnomaaALOps
namespace Go.Proofs.Ytnanpamfdjnomaa.AL
open Go Go.RowKit

def AV.cells? : AV → Option (List AV)
  | .agg cs => some cs
  | .pv (.agg ps) => some (ps.map .pv)
  | x => if x.one then some [x] else none
theorem cells_one {v : Value} (h : v.oneCell' = true) : v.cells = #[v] := by cases v <;> simp_all [Value.oneCell', Value.cells]
theorem VR.cells {g : Ghost} {k : Nat} {x : AV} {v : Value} {cs : List AV} (h : VR g k x v) (hx : x.cells? = some cs) :
    v.cells.size = cs.length ∧ ∀ (i : Nat) (y : AV), cs[i]? = some y → VR g k y (v.cells.getD i undef) := by
  have scalar : x.one = true → cs = [x] → v.cells.size = cs.length ∧ ∀ (i : Nat) (y : AV), cs[i]? = some y → VR g k y (v.cells.getD i undef) := by
    rintro h1 rfl
    rw [cells_one (h.one h1)]
    refine ⟨rfl, fun i y hi => ?_⟩
    cases i with
    | zero => simp at hi; subst hi; simpa using h
    | succ i => simp at hi
  unfold AV.cells? at hx
  split at hx
  · injection hx with hx; subst hx
    cases h with | agg vs hs hv => exact ⟨hs, hv⟩
  · rename_i ps0
    injection hx with hx; subst hx
    cases h with
    | pv hp =>
      cases hp with
      | agg ps vs hs hv =>
        refine ⟨by simp [Value.cells, hs], fun i y hi => ?_⟩
        rw [List.getElem?_map] at hi
        cases hq : ps0[i]? with
        | none => rw [hq] at hi; cases hi
        | some q => rw [hq] at hi; injection hi with hi; subst hi; exact .pv (hv i q hq)
  · split at hx
    · rename_i h1; injection hx with hx; exact scalar h1 hx.symm
    · cases hx

/-- The cells of a list, each told as such. -/
def AV.toPV? : AV → Option PV
  | .pv p => some p
  | .row _ es xs => some (.lst es xs)
  | .full es xs => some (.lst es xs)
  | _ => none
theorem VR.toPV {g : Ghost} {k : Nat} {x : AV} {v : Value} {p : PV} (h : VR g k x v) (hx : x.toPV? = some p) : VRp g.I p v := by
  cases h <;> simp only [AV.toPV?, Option.some.injEq] at hx <;> first
    | (subst hx; assumption)
    | (cases hx; done)

def toPVs : List AV → Option (List PV)
  | [] => some []
  | x :: r => match x.toPV?, toPVs r with
    | some p, some ps => some (p :: ps)
    | _, _ => none
theorem toPVs_get : ∀ {cs : List AV} {ps : List PV}, toPVs cs = some ps → ps.length = cs.length ∧ ∀ (i : Nat) (p : PV), ps[i]? = some p → ∃ x, cs[i]? = some x ∧ x.toPV? = some p
  | [], ps, h => by simp only [toPVs, Option.some.injEq] at h; subst h; simp
  | x :: r, ps, h => by
    unfold toPVs at h
    split at h
    · rename_i p qs hp hr
      injection h with h; subst h
      obtain ⟨h1, h2⟩ := toPVs_get hr
      refine ⟨by simp [h1], fun i q hq => ?_⟩
      cases i with
      | zero => simp at hq; subst hq; exact ⟨x, by simp, hp⟩
      | succ i => simp at hq; simpa using h2 i q hq
    · cases h
theorem toPVs_map (ps : List PV) : toPVs (ps.map .pv) = some ps := by
  induction ps with
  | nil => rfl
  | cons p ps ih => simp [toPVs, AV.toPV?, ih]

theorem RelS.cellObj {F : Base} {g : Ghost} {σ : Store} {w : World} (h : RelS F g σ w) {n : Nat} {cs : List AV} (hn : σ.objs n = some cs) {i : Nat} {x : AV} (hi : cs[i]? = some x) :
    ∃ v, w.cell? ⟨g.φ n, i, none⟩ = some v ∧ VR g σ.next x v := by
  obtain ⟨_, _, _, c, e, h4, h5, h6⟩ := h.obj n cs hn
  have hlt : i < c.size := by rw [h5]; exact getElem?_lt hi
  refine ⟨c[i], by simp [World.cell?, h4, hlt], ?_⟩
  have := h6 i x hi
  simpa [Array.getD, hlt] using this

theorem tSA_spec {P : Program} {t : TypeId} {n : Nat} {b : Bool} (h : tSA P t = some (n, b)) (w : World) : (isAgg t).run P w = .ok b w ∧ (sizeOf t).run P w = .ok n w := by
  unfold tSA at h
  split at h
  · rename_i d i hd hi
    simp only [Option.some.injEq, Prod.mk.injEq] at h
    obtain ⟨rfl, rfl⟩ := h
    refine ⟨?_, by simp [sizeOf, typeInfo, hi]⟩
    cases d <;> simp [isAgg, run_underlying hd]
  · cases h

/-- What lies at an address. -/
def readA (σ : Store) (t : Nat × Bool) : AV → Option AV
  | .ptr n off => match σ.objs n with
    | some cs => if t.2 then (if off + t.1 ≤ cs.length then some (.agg ((cs.drop off).take t.1)) else none) else cs[off]?
    | none => none
  | .ia cs off => if t.2 then (if off + t.1 ≤ cs.length then some (.agg (((cs.drop off).take t.1).map .pv)) else none) else (cs[off]?).map .pv
  | _ => none

theorem readA_sound {P : Program} {F : Base} {g : Ghost} {σ : Store} {w : World} (hS : RelS F g σ w) {t : TypeId} {n : Nat} {b : Bool} (ht : tSA P t = some (n, b)) {x r : AV} (h : readA σ (n, b) x = some r) {u : Value} (hx : VR g σ.next x u) :
    ∃ v, (Instr.loadAt t u).run P w = .ok v w ∧ VR g σ.next r v := by
  obtain ⟨h1, h2⟩ := tSA_spec ht w
  unfold readA at h
  split at h
  · rename_i m off
    cases hx with
    | ptr hm =>
      cases hcs : σ.objs m with
      | none => rw [hcs] at h; cases h
      | some cs =>
        rw [hcs] at h
        dsimp only at h
        cases b with
        | false =>
          simp only [Bool.false_eq_true, if_false] at h
          obtain ⟨v, hv, hr⟩ := hS.cellObj hcs h
          exact ⟨v, by simp [Instr.loadAt, Instr.sureAddr, loadVar, h1, hv], hr⟩
        | true =>
          simp only [if_true] at h
          split at h
          · rename_i hlen
            injection h with h; subst h
            have hcell : ∀ j, j < n → w.cell? ((⟨g.φ m, off, none⟩ : Addr).add j) = some ((w.cell? ⟨g.φ m, off + j, none⟩).getD undef) := fun j hj => by
              rw [Addr.add_mk]
              have hlt : off + j < cs.length := by omega
              obtain ⟨v, hv, _⟩ := hS.cellObj hcs (List.getElem?_eq_getElem hlt)
              rw [hv]; rfl
            have hl := run_loadCells (P := P) w ⟨g.φ m, off, none⟩ n (fun j => (w.cell? ⟨g.φ m, off + j, none⟩).getD undef) hcell
            refine ⟨_, by simp [Instr.loadAt, Instr.sureAddr, loadVar, h1, h2, hl]; rfl, .agg _ (by simp; omega) fun j y hj => ?_⟩
            have hjn : j < n := by have := getElem?_lt hj; simp at this; omega
            rw [List.getElem?_take_of_lt hjn, List.getElem?_drop] at hj
            obtain ⟨v, hv, hr⟩ := hS.cellObj hcs hj
            simp only [Array.getD_eq_getD_getElem?, List.getElem?_toArray, List.getElem?_map, List.getElem?_range hjn, Option.map_some, Option.getD_some, hv]
            exact hr
          · cases h
  · rename_i cs off
    cases hx with
    | @ia _ _ b' o vs hI hV =>
      cases b with
      | false =>
        simp only [Bool.false_eq_true, if_false] at h
        cases hq : cs[off]? with
        | none => rw [hq] at h; cases h
        | some y =>
          rw [hq] at h
          simp only [Option.map_some, Option.some.injEq] at h
          subst h
          have := hS.imm _ _ _ (hI off y hq)
          exact ⟨vs off, by simp [Instr.loadAt, Instr.sureAddr, loadVar, h1, this], .pv (hV off y hq)⟩
      | true =>
        simp only [if_true] at h
        split at h
        · rename_i hlen
          injection h with h; subst h
          have hcell : ∀ j, j < n → w.cell? ((⟨b', o + off, none⟩ : Addr).add j) = some (vs (off + j)) := fun j hj => by
            rw [Addr.add_mk]
            have hlt : off + j < cs.length := by omega
            have := hS.imm _ _ _ (hI (off + j) _ (List.getElem?_eq_getElem hlt))
            rw [Nat.add_assoc]; exact this
          have hl := run_loadCells (P := P) w ⟨b', o + off, none⟩ n (fun j => vs (off + j)) hcell
          refine ⟨_, by simp [Instr.loadAt, Instr.sureAddr, loadVar, h1, h2, hl]; rfl, .agg _ (by simp; omega) fun j y hj => ?_⟩
          have hjn : j < n := by have := getElem?_lt hj; simp at this; omega
          rw [List.getElem?_map, List.getElem?_take_of_lt hjn, List.getElem?_drop] at hj
          cases hq : cs[off + j]? with
          | none => rw [hq] at hj; cases hj
          | some q =>
            rw [hq] at hj
            simp only [Option.map_some, Option.some.injEq] at hj
            subst hj
            simp only [Array.getD_eq_getD_getElem?, List.getElem?_toArray, List.getElem?_map, List.getElem?_range hjn, Option.map_some, Option.getD_some]
            exact .pv (hV (off + j) q hq)
        · cases h
  · cases h

/-- A store. -/
def writeA (σ : Store) (n : Nat) (x y : AV) : Option Store :=
  match x with
  | .ptr m off => match σ.objs m, y.cells? with
    | some cs, some new => if new.length = n ∧ off + new.length ≤ cs.length ∧ new.all AV.one = true then some (σ.setObj m (cs.take off ++ new ++ cs.drop (off + new.length))) else none
    | _, _ => none
  | _ => none

theorem writeA_sound {P : Program} {F : Base} {g : Ghost} {σ σ' : Store} {w : World} (hS : RelS F g σ w) {t : TypeId} {n : Nat} {b : Bool} (ht : tSA P t = some (n, b)) {x y : AV} (h : writeA σ n x y = some σ') {u v : Value} (hx : VR g σ.next x u) (hy : VR g σ.next y v) :
    ∃ w', (Instr.storeAt t u v).run P w = .ok () w' ∧ RelS F g σ' w' ∧ σ'.next = σ.next := by
  obtain ⟨h1, h2⟩ := tSA_spec ht w
  unfold writeA at h
  split at h
  · rename_i m off
    split at h
    · rename_i cs new hcs hnew
      split at h
      · rename_i hc
        injection h with h; subst h
        obtain ⟨hl, hfit, hone⟩ := hc
        cases hx with
        | ptr hm =>
          obtain ⟨hs, hv⟩ := hy.cells hnew
          obtain ⟨i1, i2, i3, c, e, i4, i5, i6⟩ := hS.obj m cs hcs
          have h1c : ∀ u ∈ v.cells.toList, u.oneCell' = true := fun u hu => by
            obtain ⟨j, hj⟩ := List.getElem?_of_mem hu
            have hjl : j < new.length := by have := getElem?_lt hj; simp at this; omega
            have := (hv j _ (List.getElem?_eq_getElem hjl)).one (List.all_eq_true.1 hone _ (List.getElem_mem hjl))
            have hj' : v.cells[j]? = some u := by simpa using hj
            simpa [Array.getD_eq_getD_getElem?, hj'] using this
          have hst := run_storeCells_at P (g.φ m) off e v.cells.toList 0 c w i4 (by simp; omega) h1c
          refine ⟨_, by simp [Instr.storeAt, Instr.sureAddr, storeVar, h2, hs, hl, hst]; rfl, ?_, rfl⟩
          refine hS.setObj hcs _ _ (by simp; omega) fun i z hz => ?_
          by_cases hi1 : i < off
          · have hz' : cs[i]? = some z := by
              rw [List.append_assoc, List.getElem?_append_left (by simp; omega), List.getElem?_take_of_lt hi1] at hz; exact hz
            have := i6 i z hz'
            have hci : i < c.size := by rw [i5]; exact getElem?_lt hz'
            simp only [Array.getD_eq_getD_getElem?, List.getElem?_toArray] at this ⊢
            rw [List.getElem?_append_left (by simp; omega), List.getElem?_take_of_lt hi1]
            simpa using this
          · have htl : (cs.take off).length = off := by simp; omega
            have hcl : (c.toList.take off).length = off := by simp; omega
            rw [List.append_assoc, List.getElem?_append_right (by omega), htl] at hz
            simp only [Array.getD_eq_getD_getElem?, List.getElem?_toArray]
            rw [List.getElem?_append_right (by omega), hcl]
            by_cases hi2 : i - off < new.length
            · rw [List.getElem?_append_left hi2] at hz
              rw [List.getElem?_append_left (by simp; omega)]
              have := hv _ _ hz
              simpa [Array.getD_eq_getD_getElem?] using this
            · rw [List.getElem?_append_right (by omega), List.getElem?_drop] at hz
              rw [List.getElem?_append_right (by simp; omega), List.getElem?_drop]
              have := i6 _ z hz
              simp only [Array.getD_eq_getD_getElem?] at this
              rw [hl] at this; simpa [hs, hl] using this
      · cases h
    · cases h
  · cases h

theorem newVar_run {P : Program} {w : World} (t : TypeId) (v : Value) : (newVar t v).run P w = .ok ⟨w.heap.size, 0, none⟩ (w.alloc (.cells v.cells t)) := rfl
theorem newRow_run {P : Program} {w : World} (t : TypeId) (c : Array Value) : (newRow t c).run P w = .ok ⟨w.heap.size, 0, none⟩ (w.alloc (.cells c t)) := rfl

theorem RelS.newPtr {F : Base} {g : Ghost} {σ : Store} {w : World} (h : RelS F g σ w) (v : Value) (e : TypeId) (cs : List AV) (hc : v.cells.size = cs.length)
    (hv : ∀ (i : Nat) (x : AV), cs[i]? = some x → VR g σ.next x (v.cells.getD i undef)) :
    ∃ g', Ghost.le σ.next g g' ∧ RelS F g' (σ.newObj cs) (w.alloc (.cells v.cells e)) ∧ VR g' (σ.next + 1) (.ptr σ.next 0) (.pointer (some ⟨w.heap.size, 0, none⟩)) := by
  refine ⟨_, Ghost.le_named _ _ _ _ _, h.newObj v.cells e cs hc hv, ?_⟩
  have := VR.ptr (g := g.named σ.next w.heap.size 0 false) (k := σ.next + 1) (n := σ.next) (off := 0) (by omega)
  simpa [Ghost.named, upd] using this
end Go.Proofs.Ytnanpamfdjnomaa.AL
