/- AL: states told by less: forgotten names, new names for rows, sealed arrays. -/
import Derived.Test.YtnanpamfdjnomaaALCall
namespace Go.Proofs.Ytnanpamfdjnomaa.AL
open Go Go.RowKit

def Store.ren (σ : Store) (k : Nat) (ts : List Nat) : Store :=
  { objs := fun n => if n < k then σ.objs n else none, toks := fun t => if t < k then σ.toks t else (ts[t - k]?).bind σ.toks, next := k + ts.length }
def Ghost.ren (g : Ghost) (k : Nat) (ts : List Nat) : Ghost :=
  { I := g.I, φ := fun t => if t < k then g.φ t else g.φ (ts.getD (t - k) 0), cap := fun t => if t < k then g.cap t else g.cap (ts.getD (t - k) 0), ph := fun t => if t < k then g.ph t else g.ph (ts.getD (t - k) 0) }

theorem Ghost.le_ren (g : Ghost) (k : Nat) (ts : List Nat) : Ghost.le k g (g.ren k ts) :=
  ⟨Imm.le_refl _, fun n hn => by simp [Ghost.ren, hn], fun n hn => by simp [Ghost.ren, hn], fun n hn => by simp [Ghost.ren, hn]⟩

theorem VR.ren {g : Ghost} {m k : Nat} {ts : List Nat} {x : AV} {v : Value} (h : VR g m x v) (hx : AV.Lt k x) : VR (g.ren k ts) (k + ts.length) x v :=
  (h.lower hx).mono (Ghost.le_ren g k ts) (by omega)

theorem VR.ren_row {g : Ghost} {m k es : Nat} {ts : List Nat} {xs : List (List PV)} {v : Value} {t i : Nat} (h : VR g m (.row t es xs) v) (hi : ts[i]? = some t) : VR (g.ren k ts) (k + ts.length) (.row (k + i) es xs) v := by
  have hlt := getElem?_lt hi
  have hn : ¬ (k + i < k) := by omega
  have hd : ts.getD i 0 = t := by simp [List.getD_eq_getElem?_getD, hi]
  have e1 : (g.ren k ts).φ (k + i) = g.φ t := by simp only [Ghost.ren, if_neg hn, Nat.add_sub_cancel_left, hd]
  have e2 : (g.ren k ts).cap (k + i) = g.cap t := by simp only [Ghost.ren, if_neg hn, Nat.add_sub_cancel_left, hd]
  have e3 : (g.ren k ts).ph (k + i) = g.ph t := by simp only [Ghost.ren, if_neg hn, Nat.add_sub_cancel_left, hd]
  cases h with
  | rowfull ht hp r => exact .rowfull (by omega) (by rw [e3]; exact hp) r
  | row ht hp r =>
    have := VR.row (g := g.ren k ts) (k := k + ts.length) (t := k + i) (es := es) (xs := xs) (by omega) (by rw [e3]; exact hp) (by rw [e1, e2]; exact r)
    rwa [e1, e2] at this

theorem RelS.ren {F : Base} {g : Ghost} {σ : Store} {w : World} (h : RelS F g σ w) {k : Nat} {ts : List Nat} (hlt : ∀ n cs, n < k → σ.objs n = some cs → ∀ x ∈ cs, AV.Lt k x) (hnd : ts.Nodup) (hge : ∀ t ∈ ts, k ≤ t) :
    RelS F (g.ren k ts) (σ.ren k ts) w := by
  have hle := Ghost.le_ren g k ts
  have ho : ∀ n, ((σ.ren k ts).objs n).isSome → n < k ∧ (σ.objs n).isSome := fun n hn => by simp only [Store.ren] at hn; by_cases q : n < k <;> simp_all
  -- where a token of the new store comes from
  have ht : ∀ t x, (σ.ren k ts).toks t = some x → ∃ s, σ.toks s = some x ∧ (g.ren k ts).φ t = g.φ s ∧ (g.ren k ts).cap t = g.cap s ∧ (g.ren k ts).ph t = g.ph s ∧ t < k + ts.length ∧ (s < k ∧ s = t ∨ k ≤ s ∧ k ≤ t ∧ ts[t - k]? = some s) := fun t x hx => by
    simp only [Store.ren] at hx
    by_cases q : t < k
    · rw [if_pos q] at hx
      exact ⟨t, hx, by simp [Ghost.ren, q], by simp [Ghost.ren, q], by simp [Ghost.ren, q], by omega, .inl ⟨q, rfl⟩⟩
    · rw [if_neg q] at hx
      cases hs : ts[t - k]? with
      | none => rw [hs] at hx; cases hx
      | some s =>
        rw [hs] at hx
        have hd : ts.getD (t - k) 0 = s := by simp [List.getD_eq_getElem?_getD, hs]
        have := getElem?_lt hs
        exact ⟨s, hx, by simp only [Ghost.ren, if_neg q, hd], by simp only [Ghost.ren, if_neg q, hd], by simp only [Ghost.ren, if_neg q, hd], by omega, .inr ⟨hge s (List.mem_of_getElem? hs), by omega, rfl⟩⟩
  refine ⟨h.below, h.base, h.imm, fun n cs hn => ?_, fun t e es m hm => ?_, fun m n hm hn he => ?_, fun s t hs hs' ps pt he => ?_, fun n t hn hs pt => ?_⟩
  · have hq := ho n (by simp [hn])
    simp only [Store.ren, if_pos hq.1] at hn
    obtain ⟨h1, h2, h3, c, e, h4, h5, h6⟩ := h.obj n cs hn
    have e1 : (g.ren k ts).φ n = g.φ n := hle.φ n hq.1
    rw [e1]
    exact ⟨by simp only [Store.ren]; omega, h2, h3, c, e, h4, h5, fun i x hx => (h6 i x hx).ren (hlt n cs hq.1 hn x (List.mem_of_getElem? hx))⟩
  · obtain ⟨s, h1, h2, h3, h4, h5, _⟩ := ht t _ hm
    obtain ⟨i1, i2⟩ := h.tok s e es m h1
    rw [h2, h3, h4]
    exact ⟨h5, i2⟩
  · have h1 := ho m hm
    have h2 := ho n hn
    rw [hle.φ m h1.1, hle.φ n h2.1] at he
    exact h.inj m n h1.2 h2.2 he
  · obtain ⟨x1, hx1⟩ := Option.isSome_iff_exists.1 hs
    obtain ⟨x2, hx2⟩ := Option.isSome_iff_exists.1 hs'
    obtain ⟨s1, h1, h2, _, h4, _, h6⟩ := ht s _ hx1
    obtain ⟨s2, i1, i2, _, i4, _, i6⟩ := ht t _ hx2
    rw [h2, i2] at he
    rw [h4] at ps
    rw [i4] at pt
    have := h.injt s1 s2 (by simp [h1]) (by simp [i1]) ps pt he
    subst this
    rcases h6 with ⟨a1, a2⟩ | ⟨a1, a2, a3⟩ <;> rcases i6 with ⟨b1, b2⟩ | ⟨b1, b2, b3⟩
    · omega
    · omega
    · omega
    · have hl1 := getElem?_lt a3
      have hl2 := getElem?_lt b3
      have : s - k = t - k := by
        rw [List.getElem?_eq_getElem hl1] at a3
        rw [List.getElem?_eq_getElem hl2] at b3
        injection a3 with a3
        injection b3 with b3
        have hp := List.pairwise_iff_getElem.1 hnd
        rcases Nat.lt_trichotomy (s - k) (t - k) with q | q | q
        · exact absurd (a3.trans b3.symm) (hp _ _ hl1 hl2 q)
        · exact q
        · exact absurd (b3.trans a3.symm) (hp _ _ hl2 hl1 q)
      omega
  · have h1 := ho n hn
    obtain ⟨x2, hx2⟩ := Option.isSome_iff_exists.1 hs
    obtain ⟨s2, i1, i2, _, i4, _, i6⟩ := ht t _ hx2
    rw [hle.φ n h1.1, i2]
    rw [i4] at pt
    exact h.apart n s2 h1.2 (by simp [i1]) pt

/-- What x tells, y tells behind new names. -/
def LeR (k : Nat) (ts : List Nat) (x y : AV) : Prop := ∀ g m v, VR g m x v → VR (g.ren k ts) (k + ts.length) y v

theorem LeR.any (k : Nat) (ts : List Nat) (x : AV) : LeR k ts x .any := fun _ _ _ _ => .any _
theorem LeR.same {k : Nat} {ts : List Nat} {x : AV} (hx : AV.Lt k x) : LeR k ts x x := fun _ _ _ h => h.ren hx
theorem LeR.pv (k : Nat) (ts : List Nat) (p : PV) : LeR k ts (.pv p) (.pv p) := .same (.pv p)
theorem LeR.row {k es : Nat} {ts : List Nat} {xs : List (List PV)} {t i : Nat} (hi : ts[i]? = some t) : LeR k ts (.row t es xs) (.row (k + i) es xs) := fun _ _ _ h => h.ren_row hi
theorem LeR.list {k es : Nat} {ts : List Nat} {x : AV} {xs : List (List PV)} (hx : x.list? es = some xs) : LeR k ts x (.pv (.lst es xs)) := fun _ _ _ h => .pv (h.list hx)

theorem Env.get_mem : ∀ {env : Env} {t : Nat}, env.get t = .any ∨ ∃ p ∈ env, p.1 = t ∧ env.get t = p.2
  | [], t => .inl rfl
  | (s, x) :: r, t => by
    by_cases h : s = t
    · exact .inr ⟨(s, x), by simp, h, by simp [Env.get, h]⟩
    · rcases Env.get_mem (env := r) (t := t) with h1 | ⟨p, h1, h2, h3⟩
      · exact .inl (by simp [Env.get, h, h1])
      · exact .inr ⟨p, List.mem_cons_of_mem _ h1, h2, by simp [Env.get, h, h3]⟩

theorem Weak.ren {N k0 : Nat} {env env' : Env} {σ σ' : Store} (k : Nat) (ts : List Nat) (hk : k0 ≤ k) (hσ : σ' = σ.ren k ts) (hlt : ∀ n cs, n < k → σ.objs n = some cs → ∀ x ∈ cs, AV.Lt k x) (hnd : ts.Nodup) (hge : ∀ t ∈ ts, k ≤ t)
    (henv : ∀ p ∈ env', LeR k ts (env.get p.1) p.2) : Weak N k0 env σ env' σ' := by
  intro F g a w hS hE _
  subst hσ
  refine ⟨by simp only [Store.ren]; omega, g.ren k ts, (Ghost.le_ren g k ts).mono hk, hS.ren hlt hnd hge, hE.defers, hE.size, fun t => ?_⟩
  rcases Env.get_mem (env := env') (t := t) with h | ⟨p, h1, h2, h3⟩
  · rw [h]; exact .any _
  · rw [h3, ← h2]; exact henv p h1 g _ _ (hE.slot p.1)

theorem Weak.refl (N k0 : Nat) (env : Env) (σ : Store) : Weak N k0 env σ env σ := fun _ g _ _ hS hE hk => ⟨hk, g, .refl _ _, hS, hE⟩
theorem Weak.trans {N k0 : Nat} {e1 e2 e3 : Env} {s1 s2 s3 : Store} (h : Weak N k0 e1 s1 e2 s2) (h' : Weak N k0 e2 s2 e3 s3) : Weak N k0 e1 s1 e3 s3 := fun F g a w hS hE hk => by
  obtain ⟨k1, g1, i1, i2, i3⟩ := h F g a w hS hE hk
  obtain ⟨k2, g2, j1, j2, j3⟩ := h' F g1 a w i2 i3 k1
  exact ⟨k2, g2, i1.trans j1, j2, j3⟩

/-- A value whose room is used up gets a token. -/
def AV.full? (es : Nat) : AV → Option (List (List PV))
  | .pv (.val (.slice none 0 0)) => some []
  | .full e xs => if e = es then some xs else none
  | _ => none
theorem VR.full' {g : Ghost} {k es : Nat} {x : AV} {xs : List (List PV)} {v : Value} (h : VR g k x v) (hx : x.full? es = some xs) : VR g k (.full es xs) v := by
  unfold AV.full? at hx
  split at hx
  · injection hx with hx; subst hx
    have := h.val_eq; subst this
    exact .full (.nil _)
  · split at hx
    · rename_i he; subst he; injection hx with hx; subst hx; exact h
    · cases hx
  · cases hx

theorem Weak.full {N k0 : Nat} {env : Env} {σ : Store} (s : Nat) (e : TypeId) (es : Nat) {xs : List (List PV)} (hx : (env.get s).full? es = some xs) (m : Nat) :
    Weak N k0 env σ ((s, .row σ.next es xs) :: env) (σ.newTok e es m) := by
  intro F g a w hS hE hk
  have hle := Ghost.le_named g σ.next 0 0 true
  refine ⟨Nat.le_trans hk (Nat.le_succ _), _, hle.mono hk, hS.newFull e es m, hE.defers, hE.size, fun t => ?_⟩
  simp only [Env.get]
  by_cases q : s = t
  · subst q
    rw [if_pos rfl]
    have hf := (hE.slot s).full' hx
    generalize a.tmps.getD s undef = v at hf
    cases hf with | full r => exact .rowfull (by simp [Store.newTok]) (by simp [Ghost.named, upd]) r
  · rw [if_neg q]
    exact (hE.slot t).mono hle (by simp [Store.newTok])

def Store.dropObj (σ : Store) (n : Nat) : Store := { σ with objs := fun m => if m = n then none else σ.objs m }
theorem RelS.dropObj {F : Base} {g : Ghost} {σ : Store} {w : World} (h : RelS F g σ w) (n : Nat) : RelS F g (σ.dropObj n) w := by
  have ho : ∀ m, ((σ.dropObj n).objs m).isSome → (σ.objs m).isSome := fun m hm => by simp only [Store.dropObj] at hm; by_cases q : m = n <;> simp_all
  refine ⟨h.below, h.base, h.imm, fun m cs hm => ?_, h.tok, fun a b ha hb => h.inj a b (ho a ha) (ho b hb), h.injt, fun a t ha => h.apart a t (ho a ha)⟩
  simp only [Store.dropObj] at hm
  by_cases q : m = n
  · simp [q] at hm
  · rw [if_neg q] at hm; exact h.obj m cs hm

/-- An array that will not be written any more reads as a list. -/
theorem settle {F : Base} {g : Ghost} {σ : Store} {w : World} (h : RelS F g σ w) {n : Nat} {ps : List PV} (hn : σ.objs n = some (ps.map .pv)) (hone : ∀ p ∈ ps, p.one = true) :
    ∃ g', Ghost.le σ.next g g' ∧ RelS F g' (σ.dropObj n) w ∧ ∀ off len cap v, off + len ≤ ps.length → len ≤ cap → VR g σ.next (.sl n off len cap) v → VR g' σ.next (.pv (.lst 1 (((ps.drop off).take len).map ([·])))) v := by
  obtain ⟨h1, h2, h3, c, e, h4, h5, h6⟩ := h.obj n _ hn
  have hD := h.dropObj n
  have hle : Imm.le g.I (g.I.add (g.φ n) 0 c.toList) := Imm.le_add fun o _ _ => h3 o
  have hA := hD.addI (g.φ n) 0 c.toList (fun j v hj => by
    simp only [World.cell?, h4, Nat.zero_add, Option.isSome_none, Bool.false_eq_true, if_false]
    simpa using hj) (fun m hm => by
      simp only [Store.dropObj] at hm
      by_cases q : m = n
      · simp [q] at hm
      · rw [if_neg q] at hm; exact fun he => q (h.inj m n hm (by simp [hn]) he)) (fun t ht hp => fun he => h.apart n t (by simp [hn]) ht hp he.symm) hle
  refine ⟨g.withI (g.I.add (g.φ n) 0 c.toList), ⟨hle, fun _ _ => rfl, fun _ _ => rfl, fun _ _ => rfl⟩, hA, fun off len cap v hfit hcap hv => ?_⟩
  have hlen : (((ps.drop off).take len).map ([·])).length = len := by simp; omega
  have hcl : c.size = ps.length := by simpa using h5
  cases hv with
  | sl hk =>
    have hflat : Flat (g.withI (g.I.add (g.φ n) 0 c.toList)).I 1 (((ps.drop off).take len).map ([·])) ((c.toList.drop off).take len) := by
      refine ⟨by simp; omega, fun u hu => ?_, fun i x hx => ?_, fun i x j y hx hy => ?_⟩
      · have hu' := List.mem_of_mem_drop (List.mem_of_mem_take hu)
        obtain ⟨j, hj⟩ := List.getElem?_of_mem hu'
        have hjl : j < ps.length := by have := getElem?_lt hj; simp at this; omega
        have := h6 j (.pv ps[j]) (by simp [List.getElem?_eq_getElem hjl])
        have hc : c.getD j undef = u := by simp at hj; simp [Array.getD_eq_getD_getElem?, hj]
        rw [hc] at this
        exact this.one (hone _ (List.getElem_mem hjl))
      · rw [List.getElem?_map] at hx
        cases hq : ((ps.drop off).take len)[i]? with
        | none => rw [hq] at hx; cases hx
        | some q => rw [hq] at hx; simp at hx; subst hx; rfl
      · rw [List.getElem?_map] at hx
        cases hq : ((ps.drop off).take len)[i]? with
        | none => rw [hq] at hx; cases hx
        | some q =>
          rw [hq] at hx
          simp at hx
          subst hx
          have hil : i < len := by have := getElem?_lt hq; simp at this; omega
          rw [List.getElem?_take_of_lt hil, List.getElem?_drop] at hq
          cases j with
          | succ j => simp at hy
          | zero =>
            simp at hy; subst hy
            have := h6 (off + i) (.pv q) (by simp [hq])
            simp only [Nat.mul_one, Nat.add_zero, List.getD_eq_getElem?_getD, List.getElem?_take_of_lt hil, List.getElem?_drop]
            have e : (c.toList[off + i]?).getD undef = c.getD (off + i) undef := by simp [Array.getD_eq_getD_getElem?]
            rw [e]
            cases this with | pv hp => exact hp.mono hle
    have := hflat.vrp (b := g.φ n) (o := off) (cap := cap) (by omega) (fun j u hj => by
      have hjl : j < len := by have := getElem?_lt hj; simp at this; omega
      rw [List.getElem?_take_of_lt hjl, List.getElem?_drop] at hj
      have := Imm.add_at (I := g.I) (b := g.φ n) (lo := 0) hj
      simpa [Ghost.withI] using this)
    rw [hlen] at this
    exact .pv this

theorem Weak.settle {N k0 : Nat} {env : Env} {σ : Store} (s : Nat) {n off len cap : Nat} {ps : List PV} (hs : env.get s = .sl n off len cap) (hn : σ.objs n = some (ps.map .pv)) (hone : ∀ p ∈ ps, p.one = true) (hfit : off + len ≤ ps.length) (hcap : len ≤ cap) :
    Weak N k0 env σ ((s, .pv (.lst 1 (((ps.drop off).take len).map ([·])))) :: env) (σ.dropObj n) := by
  intro F g a w hS hE hk
  obtain ⟨g', h1, h2, h3⟩ := Go.Proofs.Ytnanpamfdjnomaa.AL.settle hS hn hone
  refine ⟨hk, g', h1.mono hk, h2, hE.defers, hE.size, fun t => ?_⟩
  simp only [Env.get]
  by_cases q : s = t
  · subst q
    rw [if_pos rfl]
    have := hE.slot s
    rw [hs] at this
    exact h3 off len cap _ hfit hcap this
  · rw [if_neg q]
    exact (hE.slot t).mono h1 (Nat.le_refl _)

/-! ### At a function's end -/
theorem WeakV.ren {k0 : Nat} {x x' : AV} {σ σ' : Store} (ts : List Nat) (hσ : σ' = σ.ren k0 ts) (hlt : ∀ n cs, n < k0 → σ.objs n = some cs → ∀ x ∈ cs, AV.Lt k0 x) (hnd : ts.Nodup) (hge : ∀ t ∈ ts, k0 ≤ t) (hx : LeR k0 ts x x') : WeakV k0 x σ x' σ' := by
  intro F g w v hS hv _
  subst hσ
  exact ⟨by simp only [Store.ren]; omega, g.ren k0 ts, Ghost.le_ren g k0 ts, hS.ren hlt hnd hge, hx g _ _ hv⟩

theorem WeakV.settle {k0 : Nat} {σ : Store} {n off len cap : Nat} {ps : List PV} (hn : σ.objs n = some (ps.map .pv)) (hone : ∀ p ∈ ps, p.one = true) (hfit : off + len ≤ ps.length) (hcap : len ≤ cap) :
    WeakV k0 (.sl n off len cap) σ (.pv (.lst 1 (((ps.drop off).take len).map ([·])))) (σ.dropObj n) := by
  intro F g w v hS hv hk
  obtain ⟨g', h1, h2, h3⟩ := Go.Proofs.Ytnanpamfdjnomaa.AL.settle hS hn hone
  exact ⟨hk, g', h1.mono hk, h2, h3 off len cap v hfit hcap hv⟩
end Go.Proofs.Ytnanpamfdjnomaa.AL
