/- AL: literals, new rows; one table of all. -/
import Derived.Test.YtnanpamfdjnomaaALOps3
namespace Go.Proofs.Ytnanpamfdjnomaa.AL
open Go Go.RowKit

/-! ### Struct literals -/
def putA (cs : List AV) (off : Nat) (xs : List AV) : List AV := cs.take off ++ xs ++ cs.drop (off + xs.length)
def fillA (place : Nat → Option (Nat × Nat)) (cs : List AV) : List (Nat × AV) → Option (List AV)
  | [] => some cs
  | (i, x) :: r => match place i, x.cells? with
    | some (off, size), some xs => if xs.length = size ∧ off + xs.length ≤ cs.length then fillA place (putA cs off xs) r else none
    | _, _ => none

theorem zipIdx_set (xs : List Value) : ∀ (n off : Nat) (c : Array Value), off + n + xs.length ≤ c.size →
    ((xs.zipIdx n).foldl (fun cs x => cs.setIfInBounds (off + x.2) x.1) c).toList = c.toList.take (off + n) ++ xs ++ c.toList.drop (off + n + xs.length) := by
  induction xs with
  | nil => intro n off c h; simp
  | cons x xs ih =>
    intro n off c h
    simp only [List.length_cons] at h
    rw [List.zipIdx_cons, List.foldl_cons, ih (n + 1) off _ (by simp; omega)]
    simp only [Array.toList_setIfInBounds]
    have e := list_seg_step c.toList (off + n) x xs (by simp; omega)
    simpa [Nat.add_assoc] using e

theorem fill_step {place : Nat → Option (Nat × Nat)} {c : Array Value} {i off size : Nat} {v : Value} {vs : List (Nat × Value)} (hpl : place i = some (off, size)) (h1 : v.cells.size = size) (h2 : off + v.cells.size ≤ c.size) :
    Instr.fill place c ((i, v) :: vs) = Instr.fill place (c.toList.take off ++ v.cells.toList ++ c.toList.drop (off + v.cells.size)).toArray vs := by
  have hput : v.cells.zipIdx.foldl (fun cs x => cs.setIfInBounds (off + x.2) x.1) c = (c.toList.take off ++ v.cells.toList ++ c.toList.drop (off + v.cells.size)).toArray := by
    have := zipIdx_set v.cells.toList 0 off c (by simpa using h2)
    simp only [Nat.add_zero, Array.length_toList] at this
    rw [← this, Array.toArray_toList, ← Array.foldl_toList, Array.toList_zipIdx]
  have e2 : ¬ (v.cells.size ≠ size ∨ off + v.cells.size > c.size) := by omega
  have e3 : (v.cells.size != size || decide (off + v.cells.size > c.size)) = false := by simp; omega
  rw [← hput]
  simp only [Instr.fill, hpl]
  rw [if_neg (by simpa using e2)]

theorem fillA_sound {g : Ghost} {k : Nat} {place : Nat → Option (Nat × Nat)} : ∀ {parts : List (Nat × AV)} {vs : List (Nat × Value)} {cs r : List AV} {c : Array Value},
    parts.length = vs.length → (∀ (i : Nat) (p : Nat × AV) (q : Nat × Value), parts[i]? = some p → vs[i]? = some q → p.1 = q.1 ∧ VR g k p.2 q.2) →
    c.size = cs.length → (∀ (i : Nat) (x : AV), cs[i]? = some x → VR g k x (c.getD i undef)) → fillA place cs parts = some r →
    ∃ d, Instr.fill place c vs = some d ∧ d.size = r.length ∧ ∀ (i : Nat) (x : AV), r[i]? = some x → VR g k x (d.getD i undef)
  | [], [], cs, r, c, _, _, hs, hv, h => by
    simp only [fillA, Option.some.injEq] at h
    subst h
    exact ⟨c, rfl, hs, hv⟩
  | [], _ :: _, _, _, _, hl, _, _, _, _ => by simp at hl
  | _ :: _, [], _, _, _, hl, _, _, _, _ => by simp at hl
  | (i, x) :: ps, (i', v) :: vs, cs, r, c, hl, hp, hs, hv, h => by
    obtain ⟨h1, h2⟩ := hp 0 _ _ rfl rfl
    dsimp only at h1 h2
    subst h1
    unfold fillA at h
    split at h
    · rename_i off size xs hpl hxs
      split at h
      · rename_i hc
        obtain ⟨hsz, hcell⟩ := h2.cells hxs
        have hrec := fillA_sound (g := g) (k := k) (place := place) (parts := ps) (vs := vs) (cs := putA cs off xs) (r := r) (c := (c.toList.take off ++ v.cells.toList ++ c.toList.drop (off + v.cells.size)).toArray)
          (by simpa using hl) (fun j p q hp' hq' => hp (j + 1) p q (by simpa using hp') (by simpa using hq')) ?_ ?_ h
        · obtain ⟨d, hd, hd2⟩ := hrec
          exact ⟨d, by rw [fill_step hpl (by omega) (by omega)]; exact hd, hd2⟩
        · simp [putA]; omega
        · intro j y hj
          simp only [putA] at hj
          have hlt : off ≤ cs.length := by omega
          by_cases hi1 : j < off
          · rw [List.append_assoc, List.getElem?_append_left (by simp; omega), List.getElem?_take_of_lt hi1] at hj
            have := hv j y hj
            simp only [List.getElem?_toArray, Array.getD_eq_getD_getElem?] at this ⊢
            rw [List.append_assoc, List.getElem?_append_left (by simp; omega), List.getElem?_take_of_lt hi1]
            simpa using this
          · have htl : (cs.take off).length = off := by simp; omega
            have hcl : (c.toList.take off).length = off := by simp; omega
            rw [List.append_assoc, List.getElem?_append_right (by omega), htl] at hj
            simp only [List.getElem?_toArray, Array.getD_eq_getD_getElem?]
            rw [List.append_assoc, List.getElem?_append_right (by omega), hcl]
            by_cases hi2 : j - off < xs.length
            · rw [List.getElem?_append_left hi2] at hj
              rw [List.getElem?_append_left (by simp; omega)]
              have := hcell _ _ hj
              simpa [Array.getD_eq_getD_getElem?] using this
            · rw [List.getElem?_append_right (by omega), List.getElem?_drop] at hj
              rw [List.getElem?_append_right (by simp; omega), List.getElem?_drop]
              have := hv _ y hj
              simp only [Array.getD_eq_getD_getElem?] at this
              simpa [hsz] using this
      · cases h
    · cases h

/-- A struct's fields' places, its zero. -/
def tPlaces (P : Program) (t : TypeId) : Option (List (Nat × Nat) × List Value) :=
  match P.info? t, P.underlying t with
  | some it, some (.struct fields) =>
    match it.zero, fields.toList.mapM (fun f => (P.info? f.type).map fun i => (f.offset, i.size)) with
    | some z, some places => some (places, z.cells.toList)
    | _, _ => none
  | some it, some (.array n e) =>
    match it.zero, P.info? e with
    | some z, some ie => some ((List.range n).map fun i => (i * ie.size, ie.size), z.cells.toList)
    | _, _ => none
  | _, _ => none

def buildA (P : Program) (t : TypeId) (parts : List (Nat × AV)) : Option AV :=
  match tPlaces P t with
  | some (places, z) => (fillA (places[·]?) (z.map fun v => .pv (.val v)) parts).map .agg
  | none => none

theorem fill_congr {p q : Nat → Option (Nat × Nat)} : ∀ (vs : List (Nat × Value)) (c : Array Value), (∀ x ∈ vs, p x.1 = q x.1) → Instr.fill p c vs = Instr.fill q c vs
  | [], _, _ => rfl
  | (i, v) :: vs, c, h => by
    have h0 := h (i, v) (by simp)
    simp only [Instr.fill, h0]
    split
    · rfl
    · split
      · rfl
      · exact fill_congr vs _ fun x hx => h x (by simp [hx])

theorem fillA_places {place : Nat → Option (Nat × Nat)} : ∀ {parts : List (Nat × AV)} {cs r : List AV}, fillA place cs parts = some r → ∀ p ∈ parts, (place p.1).isSome
  | [], _, _, _, p, hp => by simp at hp
  | (i, x) :: ps, cs, r, h, p, hp => by
    unfold fillA at h
    split at h
    · rename_i off size xs hpl hxs
      split at h
      · rcases List.mem_cons.1 hp with rfl | hp
        · simp [hpl]
        · exact fillA_places h p hp
      · cases h
    · cases h

theorem buildA_sound {P : Program} {t : TypeId} {parts : List (Nat × AV)} {r : AV} (h : buildA P t parts = some r) {g : Ghost} {k : Nat} {vs : Array (Nat × Value)} (hl : parts.length = vs.size)
    (hp : ∀ (i : Nat) (p : Nat × AV) (q : Nat × Value), parts[i]? = some p → vs[i]? = some q → p.1 = q.1 ∧ VR g k p.2 q.2) (w : World) :
    ∃ v, (Instr.build t vs).run P w = .ok v w ∧ VR g k r v := by
  unfold buildA at h
  split at h
  · rename_i places z hpl
    cases hf : fillA (places[·]?) (z.map fun v => .pv (.val v)) parts with
    | none => rw [hf] at h; cases h
    | some cs =>
      rw [hf] at h
      simp only [Option.map_some, Option.some.injEq] at h
      subst h
      obtain ⟨d, h1, h2, h3⟩ := fillA_sound (g := g) (k := k) (vs := vs.toList) (c := z.toArray) (by simpa using hl) (fun i p q hpi hqi => hp i p q hpi (by simpa using hqi)) (by simp)
        (fun i x hx => by
          rw [List.getElem?_map] at hx
          cases hq : z[i]? with
          | none => rw [hq] at hx; cases hx
          | some q =>
            rw [hq] at hx
            simp only [Option.map_some, Option.some.injEq] at hx
            subst hx
            simp only [Array.getD_eq_getD_getElem?, List.getElem?_toArray, hq, Option.getD_some]
            exact .pv (.val _)) hf
      refine ⟨_, run_build w t vs d ?_, .agg d h2 h3⟩
      unfold tPlaces at hpl
      unfold Program.built
      split at hpl
      · rename_i it fields hi hu
        split at hpl
        · rename_i z' places' hz' hpl'
          simp only [Option.some.injEq, Prod.mk.injEq] at hpl
          obtain ⟨rfl, rfl⟩ := hpl
          simp only [hi, hu, hz', hpl']
          simpa using h1
        · cases hpl
      · rename_i it n e hi hu
        split at hpl
        · rename_i z' ie hz' hie
          simp only [Option.some.injEq, Prod.mk.injEq] at hpl
          obtain ⟨rfl, rfl⟩ := hpl
          simp only [hi, hu, hz', hie]
          rw [← h1, Array.toArray_toList]
          refine fill_congr _ _ fun x hx => ?_
          obtain ⟨j, hj⟩ := List.getElem?_of_mem hx
          have hjl : j < parts.length := by rw [hl]; have := getElem?_lt hj; simpa using this
          have hpj := hp j _ x (List.getElem?_eq_getElem hjl) (by simpa using hj)
          have hs := fillA_places hf _ (List.getElem_mem hjl)
          rw [hpj.1] at hs
          obtain ⟨y, hy⟩ := Option.isSome_iff_exists.1 hs
          rw [hy]
          rw [List.getElem?_map] at hy
          cases hq : (List.range n)[x.1]? with
          | none => rw [hq] at hy; cases hy
          | some q =>
            rw [hq] at hy
            have hqn := getElem?_lt hq
            simp at hqn
            rw [List.getElem?_range hqn] at hq
            injection hq with hq
            subst hq
            exact hy
        · cases hpl
      · cases hpl
  · cases h

/-! ### Slice literals -/
def litsA (es : Nat) : Nat → List (Nat × AV) → Option (List (List PV))
  | _, [] => some []
  | n, (i, x) :: r => if i = n then
      match x.cells? with
      | some cs => if cs.length = es ∧ cs.all AV.one = true then
          match toPVs cs, litsA es (n + 1) r with
          | some ps, some rest => some (ps :: rest)
          | _, _ => none
        else none
      | none => none
    else none

theorem litsA_sound {g : Ghost} {k es : Nat} : ∀ {n : Nat} {parts : List (Nat × AV)} {vs : List (Nat × Value)} {xs : List (List PV)} {c : Array Value}, parts.length = vs.length →
    (∀ (i : Nat) (p : Nat × AV) (q : Nat × Value), parts[i]? = some p → vs[i]? = some q → p.1 = q.1 ∧ VR g k p.2 q.2) → litsA es n parts = some xs → c.size = (n + parts.length) * es →
    ∃ d cells, Instr.fill (fun i => some (i * es, es)) c vs = some d ∧ Flat g.I es xs cells ∧ xs.length = parts.length ∧ d.toList = c.toList.take (n * es) ++ cells
  | n, [], [], xs, c, _, _, h, hs => by
    simp only [litsA, Option.some.injEq] at h
    subst h
    refine ⟨c, [], rfl, Flat.nil _ _, rfl, ?_⟩
    rw [List.append_nil, List.take_of_length_le (by simp at hs ⊢; omega)]
  | _, [], _ :: _, _, _, hl, _, _, _ => by simp at hl
  | _, _ :: _, [], _, _, hl, _, _, _ => by simp at hl
  | n, (i, x) :: ps, (i', v) :: vs, xs, c, hl, hp, h, hs => by
    obtain ⟨h1, h2⟩ := hp 0 _ _ rfl rfl
    dsimp only at h1 h2
    subst h1
    unfold litsA at h
    split at h
    · rename_i hin
      subst hin
      split at h
      · rename_i cs hcs
        split at h
        · rename_i hc
          split at h
          · rename_i qs rest hqs hrest
            injection h with h; subst h
            obtain ⟨hsz, hcell⟩ := h2.cells hcs
            simp only [List.length_cons] at hs
            have hfit : i * es + v.cells.toList.length ≤ c.size := by simp [hsz, hc.1, hs, Nat.add_mul]
            obtain ⟨d, cells, h3, h4, h5, h6⟩ := litsA_sound (g := g) (k := k) (es := es) (n := i + 1) (parts := ps) (vs := vs) (xs := rest) (c := (c.toList.take (i * es) ++ v.cells.toList ++ c.toList.drop (i * es + v.cells.size)).toArray)
              (by simpa using hl) (fun j p q hp' hq' => hp (j + 1) p q (by simpa using hp') (by simpa using hq')) hrest (by
                simp only [List.size_toArray, List.length_append, List.length_take, List.length_drop, Array.length_toList]
                simp only [Array.length_toList] at hfit
                rw [Nat.min_eq_left (by omega)]
                have hT : c.size = (i + 1 + ps.length) * es := by rw [hs]; congr 1; omega
                omega)
            obtain ⟨hql, hqg⟩ := toPVs_get hqs
            have hes : v.cells.toList.length = es := by simp [hsz, hc.1]
            have hone : Flat g.I es [qs] v.cells.toList := by
              refine ⟨by simp [hsz, hc.1], fun u hu => ?_, fun j x hx => ?_, fun j x m y hx hy => ?_⟩
              · obtain ⟨j, hj⟩ := List.getElem?_of_mem hu
                have hjl : j < cs.length := by have := getElem?_lt hj; omega
                have := (hcell j _ (List.getElem?_eq_getElem hjl)).one (List.all_eq_true.1 hc.2 _ (List.getElem_mem hjl))
                have hj' : v.cells[j]? = some u := by simpa using hj
                simpa [Array.getD_eq_getD_getElem?, hj'] using this
              · cases j with
                | zero => simp at hx; subst hx; omega
                | succ j => simp at hx
              · cases j with
                | zero =>
                  simp at hx; subst hx
                  obtain ⟨z, hz1, hz2⟩ := hqg m y hy
                  have := (hcell m z hz1).toPV hz2
                  simpa [Array.getD_eq_getD_getElem?, List.getD_eq_getElem?_getD] using this
                | succ j => simp at hx
            refine ⟨d, v.cells.toList ++ cells, ?_, ?_, by simp [h5], ?_⟩
            · rw [fill_step rfl (by omega) (by simpa using hfit)]; exact h3
            · exact hone.append h4
            · rw [h6]
              have htk : ((c.toList.take (i * es) ++ v.cells.toList ++ c.toList.drop (i * es + v.cells.size)).take ((i + 1) * es)) = c.toList.take (i * es) ++ v.cells.toList := by
                rw [List.take_append_of_le_length (by simp [Nat.add_mul, hes]; simp at hfit hes; omega)]
                rw [List.take_of_length_le]
                simp [Nat.add_mul]; simp at hes; omega
              rw [htk, List.append_assoc]
          · cases h
        · cases h
      · cases h
    · cases h

theorem buildSlice_rel {P : Program} {F : Base} {g : Ghost} {σ : Store} {w : World} (hS : RelS F g σ w) {t e : TypeId} {es b : Nat} (ht : tSl P t = some (e, es, b)) {len : Nat} {parts : List (Nat × AV)} {vs : Array (Nat × Value)} {xs : List (List PV)}
    (hlen : parts.length = len) (hbig : len * es ≤ 16777216) (hl : parts.length = vs.size) (hp : ∀ (i : Nat) (p : Nat × AV) (q : Nat × Value), parts[i]? = some p → vs[i]? = some q → p.1 = q.1 ∧ VR g σ.next p.2 q.2)
    (h : litsA es 0 parts = some xs) : ∃ v w' g', (Instr.buildSlice t len vs).run P w = .ok v w' ∧ Ghost.le σ.next g g' ∧ RelS F g' σ w' ∧ VR g' σ.next (.full es xs) v := by
  obtain ⟨hu, i, z, hi, hz, hzs, hpos, rfl, rfl⟩ := tSl_spec ht
  have hb : ¬ 16777216 < len * i.size := by omega
  -- the cells that are laid first
  have key : ∀ c : Array Value, c.size = len * i.size → ∃ d cells, Instr.fill (fun j => some (j * i.size, i.size)) c vs.toList = some d ∧ Flat g.I i.size xs cells ∧ xs.length = len ∧ d.toList = cells := by
    intro c hc
    obtain ⟨d, cells, h1, h2, h3, h4⟩ := litsA_sound (g := g) (k := σ.next) (n := 0) (c := c) (vs := vs.toList) (by simpa using hl) (fun j p q hpj hqj => hp j p q hpj (by simpa using hqj)) h (by rw [Nat.zero_add, hlen]; exact hc)
    exact ⟨d, cells, h1, h2, by omega, by simpa using h4⟩
  have fin : ∀ (d : Array Value) (cells : List Value), Flat g.I i.size xs cells → xs.length = len → d.toList = cells →
      ∃ g', Ghost.le σ.next g g' ∧ RelS F g' σ (w.alloc (.cells d e)) ∧ VR g' σ.next (.full i.size xs) (.slice (some ⟨w.heap.size, 0, none⟩) len len) := by
    intro d cells h2 h3 h4
    obtain ⟨hS', hle⟩ := hS.newImm d e
    refine ⟨g.withI (g.I.add w.heap.size 0 d.toList), ⟨hle, fun _ _ => rfl, fun _ _ => rfl, fun _ _ => rfl⟩, hS', ?_⟩
    rw [← h3]
    exact .full ((h2.mono hle).vrp (Nat.le_refl _) fun j u hj => by rw [h4]; exact Imm.add_at hj)
  by_cases h0 : len * i.size = 0
  · obtain ⟨d, cells, h1, h2, h3, h4⟩ := key #[] (by simp [h0])
    obtain ⟨g', h5, h6, h7⟩ := fin d cells h2 h3 h4
    refine ⟨_, _, g', ?_, h5, h6, h7⟩
    simp [Instr.buildSlice, run_underlying hu, sizeOf, typeInfo, hi, hb, h0, h1, newRow_run, Array.range_zero']
  · obtain ⟨d, cells, h1, h2, h3, h4⟩ := key ((Array.range (len * i.size)).map (z.cells[· % z.cells.size]!)) (by simp)
    obtain ⟨g', h5, h6, h7⟩ := fin d cells h2 h3 h4
    refine ⟨_, _, g', ?_, h5, h6, h7⟩
    simp [Instr.buildSlice, run_underlying hu, sizeOf, typeInfo, hi, hb, h0, zeroValue, hz, h1, newRow_run]
end Go.Proofs.Ytnanpamfdjnomaa.AL
