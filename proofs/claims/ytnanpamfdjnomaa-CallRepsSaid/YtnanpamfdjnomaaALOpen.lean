/- AL: a law's row: arguments, opened; the walk's end. -/
import Derived.Test.YtnanpamfdjnomaaALNe
import Derived.ProofKit
import Derived.OpenShut
import Derived.ChangeOld
import Derived.Below
import Derived.SizedLaws
import Derived.ChangeSlices
namespace Go.Proofs.Ytnanpamfdjnomaa.AL
open Go Go.RowKit Go.ChangeShapes Go.WideShapes

/-- The kinds of cells. -/
inductive CK where
  | int (k : IntKind)
  | bool
  | str
  | sl (es : List CK)

def fieldKinds (P : Program) (rec : TypeId → Option (List CK)) : List Field → Nat → Option (List CK)
  | [], _ => some []
  | f :: fs, o => if f.offset = o then match rec f.type with
      | some ks => if ks.length = P.cellsOf f.type then (fieldKinds P rec fs (o + ks.length)).map (ks ++ ·) else none
      | none => none
    else none
/-- The kinds of a type's cells. -/
def kindsOf (P : Program) : Nat → TypeId → Option (List CK)
  | 0, _ => none
  | f + 1, t => match P.underlying t with
    | some (.int k) => some [.int k]
    | some .bool => some [.bool]
    | some .string => some [.str]
    | some (.slice e) => match kindsOf P f e with
      | some ks => if ks.length = P.cellsOf e ∧ 0 < ks.length then some [.sl ks] else none
      | none => none
    | some (.struct fs) => match fieldKinds P (kindsOf P f) fs.toList 0 with
      | some ks => if ks.length = P.cellsOf t then some ks else none
      | none => none
    | _ => none

inductive Fit : CK → PV → Prop
  | int (k : IntKind) (n : Int) (h : (Lit.int k n).wf = true) : Fit (.int k) (.val (.int k n))
  | bool (b : Bool) : Fit .bool (.val (.bool b))
  | str (s : ByteArray) (h : s.size ≤ maxLen) : Fit .str (.val (.string s))
  | sl (es : List CK) (xs : List (List PV)) (hm : xs.length ≤ maxLen) (hl : ∀ (i : Nat) (x : List PV), xs[i]? = some x → x.length = es.length)
      (h : ∀ (i : Nat) (x : List PV) (j : Nat) (k : CK) (p : PV), xs[i]? = some x → es[j]? = some k → x[j]? = some p → Fit k p) : Fit (.sl es) (.lst es.length xs)

def immOf (W : World) : Imm := fun b o => W.cell? ⟨b, o, none⟩

/-- Cells, told. -/
def Told (W : World) (ks : List CK) (cs : List Value) (qs : List PV) : Prop :=
  ∀ (j : Nat) (k : CK), ks[j]? = some k → ∃ q u, qs[j]? = some q ∧ cs[j]? = some u ∧ Fit k q ∧ VRp (immOf W) q u ∧ u.oneCell' = true

theorem list_choose {α : Type} {p : Nat → α → Prop} : ∀ (n : Nat), (∀ i, i < n → ∃ x, p i x) → ∃ l : List α, l.length = n ∧ ∀ (i : Nat) (x : α), l[i]? = some x → p i x
  | 0, _ => ⟨[], rfl, fun i x h => by simp at h⟩
  | n + 1, h => by
    obtain ⟨l, h1, h2⟩ := list_choose n fun i hi => h i (by omega)
    obtain ⟨x, hx⟩ := h n (by omega)
    refine ⟨l ++ [x], by simp [h1], fun i y hy => ?_⟩
    by_cases hi : i < l.length
    · rw [List.getElem?_append_left hi] at hy; exact h2 i y hy
    · rw [List.getElem?_append_right (by omega)] at hy
      have : i = n := by have := getElem?_lt hy; simp at this; omega
      subst this
      rw [h1] at hy; simp at hy; subst hy; exact hx

section
variable {H : Type} {enc : TypeId × Value → H} {P : Program} {w : World} {base : Nat} {spare : Nat → Bool} {held : Bool}

theorem cell_spot {a : Addr} {v : Value} (h : w.cell? a = some v) : a.spot = none := by
  unfold World.cell? at h
  split at h
  · cases hs : a.spot with
    | none => rfl
    | some s => simp [hs] at h
  · cases h

theorem told_fields {n : Nat} (ih : ∀ (t : TypeId) (cs : List Value) (x : DataW H × List MemPlace) (f : Nat) (ks : List CK), DataW.trod enc P w base spare held n t cs = some x → kindsOf P f t = some ks → cs.length = ks.length ∧ ∃ qs, qs.length = ks.length ∧ Told w ks cs qs)
    (f : Nat) (cs : List Value) : ∀ (fl : List Field) (o : Nat) (ks : List CK), fieldKinds P (kindsOf P f) fl o = some ks → (∀ fd ∈ fl, ∃ x, DataW.trod enc P w base spare held n fd.type ((cs.drop fd.offset).take (P.cellsOf fd.type)) = some x) →
      ∃ qs, qs.length = ks.length ∧ Told w ks (cs.drop o) qs
  | [], o, ks, h, _ => by
    simp only [fieldKinds, Option.some.injEq] at h
    subst h
    exact ⟨[], rfl, fun j k hj => by simp at hj⟩
  | fd :: fl, o, ks, h, hx => by
    simp only [fieldKinds] at h
    split at h
    · rename_i ho
      split at h
      · rename_i k1 hk1
        split at h
        · rename_i hl1
          cases hr : fieldKinds P (kindsOf P f) fl (o + k1.length) with
          | none => rw [hr] at h; cases h
          | some k2 =>
            rw [hr] at h
            simp only [Option.map_some, Option.some.injEq] at h
            subst h
            obtain ⟨x, hx1⟩ := hx fd (List.mem_cons_self ..)
            obtain ⟨hcl, q1, hq1, ht1⟩ := ih _ _ _ f k1 hx1 hk1
            obtain ⟨q2, hq2, ht2⟩ := told_fields ih f cs fl (o + k1.length) k2 hr fun fd' hfd => hx fd' (List.mem_cons_of_mem _ hfd)
            refine ⟨q1 ++ q2, by simp [hq1, hq2], fun j k hj => ?_⟩
            rw [ho] at ht1
            by_cases hjl : j < k1.length
            · rw [List.getElem?_append_left hjl] at hj
              obtain ⟨q, u, i1, i2, i3⟩ := ht1 j k hj
              refine ⟨q, u, by rw [List.getElem?_append_left (by omega)]; exact i1, ?_, i3⟩
              rw [List.getElem?_take_of_lt (by omega)] at i2
              exact i2
            · rw [List.getElem?_append_right (by omega)] at hj
              obtain ⟨q, u, i1, i2, i3⟩ := ht2 _ k hj
              refine ⟨q, u, by rw [List.getElem?_append_right (by omega), hq1]; exact i1, ?_, i3⟩
              rw [List.getElem?_drop] at i2 ⊢
              rwa [show o + k1.length + (j - k1.length) = o + j by omega] at i2
        · cases h
      · cases h
    · cases h

theorem open_cells : ∀ (n : Nat) (t : TypeId) (cs : List Value) (x : DataW H × List MemPlace) (f : Nat) (ks : List CK), DataW.trod enc P w base spare held n t cs = some x → kindsOf P f t = some ks → cs.length = ks.length ∧ ∃ qs, qs.length = ks.length ∧ Told w ks cs qs := by
  intro n
  induction n with
  | zero => intro t cs x f ks h; simp [DataW.trod] at h
  | succ n ih =>
    intro t cs x f ks h hk
    cases f with
    | zero => cases hk
    | succ f =>
      simp only [kindsOf] at hk
      split at hk
      · rename_i k hu
        injection hk with hk; subst hk
        obtain ⟨m, rfl, _, hw⟩ := DataW.trod_int hu h
        refine ⟨rfl, [.val (.int k m)], rfl, fun j c hj => ?_⟩
        cases j with
        | zero => simp at hj; subst hj; exact ⟨_, _, rfl, rfl, .int k m hw, .val _, rfl⟩
        | succ j => simp at hj
      · rename_i hu
        injection hk with hk; subst hk
        obtain ⟨b, rfl, _⟩ := DataW.trod_bool hu h
        refine ⟨rfl, [.val (.bool b)], rfl, fun j c hj => ?_⟩
        cases j with
        | zero => simp at hj; subst hj; exact ⟨_, _, rfl, rfl, .bool b, .val _, rfl⟩
        | succ j => simp at hj
      · rename_i hu
        injection hk with hk; subst hk
        obtain ⟨s, rfl, _, hs⟩ := DataW.trod_string hu h
        refine ⟨rfl, [.val (.string s)], rfl, fun j c hj => ?_⟩
        cases j with
        | zero => simp at hj; subst hj; exact ⟨_, _, rfl, rfl, .str s hs, .val _, rfl⟩
        | succ j => simp at hj
      · rename_i e hu
        split at hk
        · rename_i es hes
          split at hk
          · rename_i hle
            injection hk with hk; subst hk
            rcases DataW.trod_slice hu h with ⟨rfl, _⟩ | ⟨a, len, cap, elems, rest, n', hn', rfl, _, hb, hlc, hm, hlen, hel, _⟩
            · refine ⟨rfl, [.lst es.length []], rfl, fun j c hj => ?_⟩
              cases j with
              | zero => simp at hj; subst hj; exact ⟨_, _, rfl, rfl, .sl es [] (Nat.zero_le _) (fun i x hx => by simp at hx) (fun i x j k p hx => by simp at hx), .nil _, rfl⟩
              | succ j => simp at hj
            · obtain rfl : n = n' := by omega
              rw [← hle.1] at hel
              have each : ∀ i, i < len → ∃ qc : List PV × List Value, qc.1.length = es.length ∧ qc.2.length = es.length ∧ Told w es qc.2 qc.1 ∧ ∀ j, j < es.length → w.cell? ((a.add (i * es.length)).add j) = qc.2[j]? := fun i hi => by
                have h1 := hel i hi
                rw [List.getElem?_eq_getElem (by omega), Option.bind_eq_some_iff] at h1
                obtain ⟨c, hc1, hc2⟩ := h1
                obtain ⟨h3, q, h4, h5⟩ := ih e c _ f es hc2 hes
                obtain ⟨_, h7, h8⟩ := World.cells?_some hc1
                exact ⟨(q, c), h4, h7, h5, h8⟩
              obtain ⟨l, hl, hp⟩ := list_choose len each
              have hxl : (l.map (·.1)).length = len := by simp [hl]
              have hwid : ∀ (i : Nat) (x : List PV), (l.map (·.1))[i]? = some x → x.length = es.length := fun i x hx => by
                rw [List.getElem?_map] at hx
                cases hq : l[i]? with
                | none => rw [hq] at hx; cases hx
                | some q => rw [hq] at hx; simp at hx; subst hx; exact (hp i q hq).1
              have hfit : Fit (.sl es) (.lst es.length (l.map (·.1))) := .sl es _ (by omega) hwid fun i x j k p hx hj hpj => by
                rw [List.getElem?_map] at hx
                cases hq : l[i]? with
                | none => rw [hq] at hx; cases hx
                | some q =>
                  rw [hq] at hx; simp at hx; subst hx
                  obtain ⟨q', u, i1, i2, i3, _⟩ := (hp i q hq).2.2.1 j k hj
                  rw [i1] at hpj; injection hpj with hpj; subst hpj; exact i3
              have hv : VRp (immOf w) (.lst es.length (l.map (·.1))) (.slice (some a) len cap) := by
                by_cases h0 : len = 0
                · have : l = [] := List.eq_nil_of_length_eq_zero (by omega)
                  subst this
                  rw [h0]; exact .emp _ _ _
                · obtain ⟨q0, hq0⟩ : ∃ q, l[0]? = some q := ⟨l[0]'(by omega), List.getElem?_eq_getElem (by omega)⟩
                  have hs : a.spot = none := by
                    have h1 := (hp 0 q0 hq0).2.2.2 0 hle.2
                    rw [List.getElem?_eq_getElem (by have := (hp 0 q0 hq0).2.1; have := hle.2; omega)] at h1
                    have h2 := cell_spot h1
                    simpa [Addr.add] using h2
                  obtain ⟨b, o, s⟩ := a
                  dsimp only at hs
                  subst hs
                  have cellAt : ∀ i q, l[i]? = some q → ∀ j, j < es.length → w.cell? ⟨b, o + (i * es.length + j), none⟩ = q.2[j]? := fun i q hq j hj => by
                    have := (hp i q hq).2.2.2 j hj
                    rwa [Addr.add_mk, Addr.add_mk, Nat.add_assoc] at this
                  have hcell : ∀ m, m < len * es.length → ∃ u, w.cell? ⟨b, o + m, none⟩ = some u ∧ u.oneCell' = true := fun m hm => by
                    have hpos := hle.2
                    have h1 : m / es.length < len := Nat.div_lt_of_lt_mul (by rwa [Nat.mul_comm])
                    have h2 : m % es.length < es.length := Nat.mod_lt _ hpos
                    obtain ⟨q, hq⟩ : ∃ q, l[m / es.length]? = some q := ⟨l[m / es.length]'(by omega), List.getElem?_eq_getElem (by omega)⟩
                    have h3 := cellAt _ q hq _ h2
                    obtain ⟨_, u, _, i2, _, _, i4⟩ := (hp _ q hq).2.2.1 (m % es.length) es[m % es.length] (List.getElem?_eq_getElem h2)
                    refine ⟨u, ?_, i4⟩
                    rw [i2] at h3
                    rw [← h3]
                    congr 2
                    have := Nat.div_add_mod m es.length
                    rw [Nat.mul_comm] at this
                    omega
                  have hget : ∀ m, m < len * es.length → ((List.range (len * es.length)).map fun m => (w.cell? ⟨b, o + m, none⟩).getD undef)[m]? = w.cell? ⟨b, o + m, none⟩ := fun m hm => by
                    obtain ⟨u, hu1, _⟩ := hcell m hm
                    rw [List.getElem?_map, List.getElem?_range hm]
                    simp [hu1]
                  rw [← hxl]
                  refine .lst es.length _ b o cap ((List.range (len * es.length)).map fun m => (w.cell? ⟨b, o + m, none⟩).getD undef) (by omega) (by simp [hl]) (fun u hu => ?_) hwid (fun j u hj => ?_) (fun i x j y hx hy => ?_)
                  · obtain ⟨m, hm⟩ := List.getElem?_of_mem hu
                    have hml : m < len * es.length := by have := getElem?_lt hm; simpa using this
                    rw [hget m hml] at hm
                    obtain ⟨u', hu1, hu2⟩ := hcell m hml
                    rw [hu1] at hm; injection hm with hm; subst hm; exact hu2
                  · have hml : j < len * es.length := by have := getElem?_lt hj; simpa using this
                    rw [hget j hml] at hj
                    exact hj
                  · rw [List.getElem?_map] at hx
                    cases hq : l[i]? with
                    | none => rw [hq] at hx; cases hx
                    | some q =>
                      rw [hq] at hx; simp at hx; subst hx
                      have hj : j < es.length := by have := (hp i q hq).1; have := getElem?_lt hy; omega
                      have hi : i < len := by have := getElem?_lt hq; omega
                      have hml : i * es.length + j < len * es.length := by
                        have : (i + 1) * es.length ≤ len * es.length := Nat.mul_le_mul_right _ hi
                        rw [Nat.add_mul] at this; omega
                      obtain ⟨q', u, i1, i2, _, i4, _⟩ := (hp i q hq).2.2.1 j es[j] (List.getElem?_eq_getElem hj)
                      rw [i1] at hy; injection hy with hy; subst hy
                      have h3 := cellAt i q hq j hj
                      rw [i2] at h3
                      rw [List.getD_eq_getElem?_getD, hget _ hml, h3]
                      exact i4
              refine ⟨rfl, [.lst es.length (l.map (·.1))], rfl, fun j c hj => ?_⟩
              cases j with
              | zero => simp at hj; subst hj; exact ⟨_, _, rfl, rfl, hfit, hv, rfl⟩
              | succ j => simp at hj
          · cases hk
        · cases hk
      · rename_i fs hu
        split at hk
        · rename_i es hes
          split at hk
          · rename_i hle
            injection hk with hk; subst hk
            obtain ⟨xs, n', hn', _, hcl, hxl, hfd⟩ := DataW.trod_struct hu h
            obtain rfl : n = n' := by omega
            refine ⟨by omega, ?_⟩
            obtain ⟨qs, h1, h2⟩ := told_fields ih f cs fs.toList 0 es hes fun fd hfm => by
              obtain ⟨i, hi⟩ := List.getElem?_of_mem hfm
              have hi' : fs[i]? = some fd := by simpa using hi
              have hil : i < fs.size := by
                have := getElem?_lt hi; simpa using this
              rw [hfd i fd hi', List.getElem?_eq_getElem (by omega)]
              exact ⟨_, rfl⟩
            rw [List.drop_zero] at h2
            exact ⟨qs, h1, h2⟩
          · cases hk
        · cases hk
      · cases hk

/-- An argument that is a slice. -/
theorem arg_slice {r : Reach} {b0 : Nat} {t e : TypeId} {f : Nat} {es : List CK} {v : Value} {d : DataW H} {ps : List MemPlace} (hu : P.underlying t = some (.slice e)) (hk : kindsOf P f t = some [.sl es]) (hval : Value.okWide P w r b0 t v)
    (h : DataW.Trod enc P w base spare held t v d ps) : ∃ xs, Fit (.sl es) (.lst es.length xs) ∧ VRp (immOf w) (.lst es.length xs) v := by
  obtain ⟨a, len, cap, rfl⟩ := okWide_slice hu hval
  obtain ⟨n, hn⟩ := h
  obtain ⟨_, qs, hq, ht⟩ := open_cells n t _ _ f _ hn hk
  obtain ⟨q, u, h1, h2, h3, h4, _⟩ := ht 0 _ rfl
  simp [Value.cells] at h2
  subst h2
  cases h3 with
  | sl _ xs hm hl hf => exact ⟨xs, .sl es xs hm hl hf, h4⟩

/-- An argument that is a struct. -/
theorem arg_struct {r : Reach} {b0 : Nat} {t : TypeId} {fs : Array Field} {f : Nat} {es : List CK} {v : Value} {d : DataW H} {ps : List MemPlace} (hu : P.underlying t = some (.struct fs)) (hk : kindsOf P f t = some es) (hval : Value.okWide P w r b0 t v)
    (h : DataW.Trod enc P w base spare held t v d ps) : ∃ qs : List PV, qs.length = es.length ∧ (∀ (j : Nat) (k : CK) (q : PV), es[j]? = some k → qs[j]? = some q → Fit k q) ∧ VRp (immOf w) (.agg qs) v := by
  simp only [Value.okWide, hu] at hval
  obtain ⟨cs, rfl, hsz, _⟩ := hval
  obtain ⟨n, hn⟩ := h
  obtain ⟨hcl, qs, hq, ht⟩ := open_cells n t _ _ f _ hn hk
  simp only [Value.cells] at hcl ht
  refine ⟨qs, hq, fun j k q hj hqj => ?_, .agg qs cs (by rw [hq, ← hcl]; simp) fun j y hy => ?_⟩
  · obtain ⟨q', u, h1, _, h3, _⟩ := ht j k hj
    rw [h1] at hqj; injection hqj with hqj; subst hqj; exact h3
  · have hj : j < es.length := by have := getElem?_lt hy; omega
    obtain ⟨q', u, h1, h2, _, h4, _⟩ := ht j es[j] (List.getElem?_eq_getElem hj)
    rw [h1] at hy; injection hy with hy; subst hy
    have : cs.getD j undef = u := by simp at h2; simp [Array.getD_eq_getD_getElem?, h2]
    rw [this]; exact h4
/-- A slice is no longer than its weight allows. -/
theorem slice_sized {t e : TypeId} {es : Nat} {v : Value} {d : DataW H} {ps : List MemPlace} {ts : List TypeId} {ds : List (DataW H)} {j : Nat} {xs : List (List PV)} {B : Nat} (hsz : (DataW.weightsEach P ts ds).all (· ≤ reachBytes) = true) (ht : ts[j]? = some t) (hd : ds[j]? = some d)
    (hu : P.underlying t = some (.slice e)) (hB : P.bytesOf e = B) {r : Reach} {b0 : Nat} (hval : Value.okWide P w r b0 t v) (h : DataW.Trod enc P w base spare held t v d ps) (hv : VRp (immOf w) (.lst es xs) v) : xs.length * B ≤ 140737488351232 := by
  obtain ⟨a, len, cap, rfl⟩ := okWide_slice hu hval
  have hlen : xs.length = len := by cases hv <;> rfl
  obtain ⟨n, hn⟩ := h
  rcases DataW.trod_slice hu hn with ⟨hcs, _⟩ | ⟨a', len', cap', elems, rest, n', _, hcs, hx, _, _, _, hel, _⟩
  · simp [Value.cells] at hcs
    obtain ⟨rfl, rfl, rfl⟩ := hcs
    simp [hlen]
  · simp [Value.cells] at hcs
    obtain ⟨rfl, rfl, rfl⟩ := hcs
    obtain ⟨hx, _⟩ := Prod.mk.inj hx
    subst hx
    have z := sized_slice hsz ht hd hu
    rw [hB] at z
    have h1 : xs.length ≤ (elems.map (·.1)).length + (rest.map (·.1)).length := by simp; omega
    exact Nat.le_trans (Nat.mul_le_mul_right _ h1) z
end

/-! ### The walk's begin and end -/
def store0 : Store := ⟨fun _ => none, fun _ => none, 0⟩
def ghost0 (W : World) : Ghost := ⟨immOf W, fun _ => 0, fun _ => 0, fun _ => true⟩
theorem rel0 (W : World) : RelS ⟨W, W.heap.size⟩ (ghost0 W) store0 W :=
  ⟨Below.refl W.heap.size W, Nat.le_refl _, fun b o v h => h, fun n cs h => (by simp [store0] at h), fun t e es m h => (by simp [store0] at h), fun m n h => (by simp [store0] at h), fun s t h => (by simp [store0] at h), fun n t h => (by simp [store0] at h)⟩
theorem law_calls {P : Program} {f : FuncId} {args : List AV} {vals : Array Value} {W : World} (h : ACalls P f args store0 (fun x s => x = .bool true ∧ s = store0)) (hs : vals.size = args.length)
    (hv : ∀ (j : Nat) (y : AV), args[j]? = some y → VR (ghost0 W) 0 y (vals.getD j undef)) : Calls P f vals W fun e W' => e = .returned (.bool true) ∧ Below W.heap.size W W' :=
  (h ⟨W, W.heap.size⟩ (ghost0 W) W vals (rel0 W) hs hv).mono fun e W' ⟨v, x, σ', g', h1, h2, h3, h4, h5, h6, h7⟩ => by
    subst h6
    have := h5.val_eq
    subst this
    exact ⟨h1, h4.below⟩
theorem args_nil {W : World} {vs : Array Value} {n : Nat} : ∀ (j : Nat) (y : AV), ([] : List AV)[j]? = some y → VR (ghost0 W) 0 y (vs.getD (n + j) undef) := fun j y h => by simp at h
theorem args_cons {W : World} {vs : Array Value} {n : Nat} {x : AV} {l : List AV} (h : VR (ghost0 W) 0 x (vs.getD n undef)) (k : ∀ (j : Nat) (y : AV), l[j]? = some y → VR (ghost0 W) 0 y (vs.getD (n + 1 + j) undef)) :
    ∀ (j : Nat) (y : AV), (x :: l)[j]? = some y → VR (ghost0 W) 0 y (vs.getD (n + j) undef) := fun j y hy => by
  cases j with
  | zero => simp at hy; subst hy; exact h
  | succ j => simp at hy; have := k j y hy; rwa [show n + 1 + j = n + (j + 1) by omega] at this
theorem args_zero {W : World} {vs : Array Value} {l : List AV} (k : ∀ (j : Nat) (y : AV), l[j]? = some y → VR (ghost0 W) 0 y (vs.getD (0 + j) undef)) : ∀ (j : Nat) (y : AV), l[j]? = some y → VR (ghost0 W) 0 y (vs.getD j undef) := fun j y hy => by
  have := k j y hy; rwa [Nat.zero_add] at this
theorem VR.agg_of {g : Ghost} {k : Nat} {qs : List PV} {v : Value} (h : VRp g.I (.agg qs) v) : VR g k (.agg (qs.map .pv)) v := by
  cases h with
  | agg _ vs hs hv =>
      refine .agg vs (by simpa using hs) fun j y hy => ?_
      rw [List.getElem?_map] at hy
      cases hq : qs[j]? with
      | none => rw [hq] at hy; cases hy
      | some q => rw [hq] at hy; simp at hy; subst hy; exact .pv (hv j q hq)
/-! ### What fits, list by list -/
theorem Fit.int_inv {k : IntKind} {p : PV} (h : Fit (.int k) p) : ∃ n, p = .val (.int k n) ∧ (Lit.int k n).wf = true := by
  cases h with | int _ n hw => exact ⟨n, rfl, hw⟩
theorem Fit.sl_inv {es : List CK} {p : PV} (h : Fit (.sl es) p) : ∃ xs, p = .lst es.length xs ∧ xs.length ≤ maxLen ∧ (∀ (i : Nat) (x : List PV), xs[i]? = some x → x.length = es.length) ∧
    ∀ (i : Nat) (x : List PV) (j : Nat) (k : CK) (p : PV), xs[i]? = some x → es[j]? = some k → x[j]? = some p → Fit k p := by
  cases h with | sl _ xs hm hl hf => exact ⟨xs, rfl, hm, hl, hf⟩
theorem Fit.bytes {xs : List (List PV)} (h : Fit (.sl [.int .u8]) (.lst 1 xs)) : ∃ l : List UInt8, xs = encB l := by
  obtain ⟨ys, hy, _, hl, hf⟩ := h.sl_inv
  injection hy with _ hy
  subst hy
  have key : ∀ (zs : List (List PV)), (∀ x ∈ zs, ∃ b : UInt8, x = [.val (.int .u8 (b.toNat : Int))]) → ∃ l : List UInt8, zs = encB l := by
    intro zs
    induction zs with
    | nil => exact fun _ => ⟨[], rfl⟩
    | cons z zs ih =>
      intro hz
      obtain ⟨b, hb⟩ := hz z (List.mem_cons_self ..)
      obtain ⟨l, hl⟩ := ih fun x hx => hz x (List.mem_cons_of_mem _ hx)
      exact ⟨b :: l, by rw [hb, hl]; rfl⟩
  refine key xs fun x hx => ?_
  obtain ⟨i, hi⟩ := List.getElem?_of_mem hx
  have h1 := hl i x hi
  match x, h1 with
  | [p], _ =>
    obtain ⟨n, rfl, hw⟩ := (hf i [p] 0 (.int .u8) p hi rfl rfl).int_inv
    refine ⟨UInt8.ofNat n.toNat, ?_⟩
    have hn : 0 ≤ n ∧ n < 256 := by
      simp [Lit.wf, IntKind.has, IntKind.min, IntKind.max, IntKind.signed, IntKind.bits] at hw
      omega
    have : ((UInt8.ofNat n.toNat).toNat : Int) = n := by simp; omega
    rw [this]
theorem wf_i64 {n : Int} (h : (Lit.int .i64 n).wf = true) : -9223372036854775808 ≤ n ∧ n ≤ 9223372036854775807 := by
  simp [Lit.wf, IntKind.has, IntKind.min, IntKind.max, IntKind.signed, IntKind.bits] at h
  omega
theorem wf_u64 {n : Int} (h : (Lit.int .u64 n).wf = true) : 0 ≤ n ∧ n < 2 ^ 64 := by
  simp [Lit.wf, IntKind.has, IntKind.min, IntKind.max, IntKind.signed, IntKind.bits] at h
  omega
theorem wf_u8 {n : Int} (h : (Lit.int .u8 n).wf = true) : 0 ≤ n ∧ n < 256 := by
  simp [Lit.wf, IntKind.has, IntKind.min, IntKind.max, IntKind.signed, IntKind.bits] at h
  omega
/-- A list of ints. -/
theorem Fit.ints {xs : List (List PV)} (h : Fit (.sl [.int .i64]) (.lst 1 xs)) : ∃ l : List Int, xs = l.map (fun n => [PV.val (.int .i64 n)]) ∧ ∀ n ∈ l, -9223372036854775808 ≤ n ∧ n ≤ 9223372036854775807 := by
  obtain ⟨ys, hy, _, hl, hf⟩ := h.sl_inv
  injection hy with _ hy
  subst hy
  have key : ∀ (zs : List (List PV)), (∀ x ∈ zs, ∃ n : Int, x = [.val (.int .i64 n)] ∧ -9223372036854775808 ≤ n ∧ n ≤ 9223372036854775807) → ∃ l : List Int, zs = l.map (fun n => [PV.val (.int .i64 n)]) ∧ ∀ n ∈ l, -9223372036854775808 ≤ n ∧ n ≤ 9223372036854775807 := by
    intro zs
    induction zs with
    | nil => exact fun _ => ⟨[], rfl, by simp⟩
    | cons z zs ih =>
      intro hz
      obtain ⟨b, hb, hw⟩ := hz z (List.mem_cons_self ..)
      obtain ⟨l, hl, hw'⟩ := ih fun x hx => hz x (List.mem_cons_of_mem _ hx)
      refine ⟨b :: l, by rw [hb, hl]; rfl, fun n hn => ?_⟩
      rcases List.mem_cons.1 hn with rfl | hn
      · exact hw
      · exact hw' n hn
  refine key xs fun x hx => ?_
  obtain ⟨i, hi⟩ := List.getElem?_of_mem hx
  have h1 := hl i x hi
  match x, h1 with
  | [p], _ =>
    obtain ⟨n, rfl, hw⟩ := (hf i [p] 0 (.int .i64) p hi rfl rfl).int_inv
    exact ⟨n, rfl, wf_i64 hw⟩
/-- What fits, cell by cell. -/
def FitAll (es : List CK) (x : List PV) : Prop := x.length = es.length ∧ ∀ (j : Nat) (k : CK) (p : PV), es[j]? = some k → x[j]? = some p → Fit k p
theorem FitAll.nil {x : List PV} (h : FitAll [] x) : x = [] := List.eq_nil_of_length_eq_zero h.1
theorem FitAll.cons {k : CK} {es : List CK} {x : List PV} (h : FitAll (k :: es) x) : ∃ p r, x = p :: r ∧ Fit k p ∧ FitAll es r := by
  obtain ⟨h1, h2⟩ := h
  match x, h1 with
  | p :: r, h1 => exact ⟨p, r, rfl, h2 0 k p rfl rfl, by simpa using h1, fun j k' p' hk hp => h2 (j + 1) k' p' (by simpa using hk) (by simpa using hp)⟩
theorem Fit.rows {es : List CK} {xs : List (List PV)} {n : Nat} (h : Fit (.sl es) (.lst n xs)) : ∀ x ∈ xs, FitAll es x := by
  obtain ⟨ys, hy, _, hl, hf⟩ := h.sl_inv
  injection hy with _ hy
  subst hy
  intro x hx
  obtain ⟨i, hi⟩ := List.getElem?_of_mem hx
  exact ⟨hl i x hi, fun j k p hk hp => hf i x j k p hi hk hp⟩
end Go.Proofs.Ytnanpamfdjnomaa.AL
