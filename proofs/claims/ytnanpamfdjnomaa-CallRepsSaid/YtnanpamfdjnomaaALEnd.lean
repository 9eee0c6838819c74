/- AL: what is handed on from round to round, and at a function's end. -/
import Derived.Test.YtnanpamfdjnomaaALCode
namespace Go.Proofs.Ytnanpamfdjnomaa.AL
open Go Go.RowKit

section
variable (σ : Store)
theorem objs_newObj (cs : List AV) (n : Nat) : (σ.newObj cs).objs n = if n = σ.next then some cs else σ.objs n := id rfl
theorem toks_newObj (cs : List AV) (n : Nat) : (σ.newObj cs).toks n = σ.toks n := id rfl
theorem next_newObj (cs : List AV) : (σ.newObj cs).next = σ.next + 1 := id rfl
theorem objs_newTok (e es m n : Nat) : (σ.newTok e es m).objs n = σ.objs n := id rfl
theorem toks_newTok (e es m n : Nat) : (σ.newTok e es m).toks n = if n = σ.next then some (e, es, m) else σ.toks n := id rfl
theorem next_newTok (e es m : Nat) : (σ.newTok e es m).next = σ.next + 1 := id rfl
theorem objs_killTok (t n : Nat) : (σ.killTok t).objs n = σ.objs n := id rfl
theorem toks_killTok (t n : Nat) : (σ.killTok t).toks n = if n = t then none else σ.toks n := id rfl
theorem next_killTok (t : Nat) : (σ.killTok t).next = σ.next := id rfl
theorem objs_setObj (m : Nat) (cs : List AV) (n : Nat) : (σ.setObj m cs).objs n = if n = m then some cs else σ.objs n := id rfl
theorem toks_setObj (m : Nat) (cs : List AV) (n : Nat) : (σ.setObj m cs).toks n = σ.toks n := id rfl
theorem next_setObj (m : Nat) (cs : List AV) : (σ.setObj m cs).next = σ.next := id rfl
theorem objs_dropObj (m n : Nat) : (σ.dropObj m).objs n = if n = m then none else σ.objs n := id rfl
theorem toks_dropObj (m n : Nat) : (σ.dropObj m).toks n = σ.toks n := id rfl
theorem next_dropObj (m : Nat) : (σ.dropObj m).next = σ.next := id rfl
end

/-- Below σ.next the two are the same. -/
structure Agree (σ τ : Store) : Prop where
  next : σ.next ≤ τ.next
  obj : ∀ n, n < σ.next → τ.objs n = σ.objs n
  tok : ∀ n, n < σ.next → τ.toks n = σ.toks n
theorem Agree.refl (σ : Store) : Agree σ σ := ⟨Nat.le_refl _, fun _ _ => rfl, fun _ _ => rfl⟩
theorem Agree.trans {a b c : Store} (h : Agree a b) (k : Agree b c) : Agree a c :=
  ⟨Nat.le_trans h.next k.next, fun n hn => (k.obj n (Nat.lt_of_lt_of_le hn h.next)).trans (h.obj n hn), fun n hn => (k.tok n (Nat.lt_of_lt_of_le hn h.next)).trans (h.tok n hn)⟩
theorem Agree.newObj {σ τ : Store} (h : Agree σ τ) (cs : List AV) : Agree σ (τ.newObj cs) :=
  ⟨Nat.le_trans h.next (Nat.le_succ _), fun n hn => by have := h.next; rw [objs_newObj, if_neg (by omega)]; exact h.obj n hn, fun n hn => h.tok n hn⟩
theorem Agree.newTok {σ τ : Store} (h : Agree σ τ) (e es m : Nat) : Agree σ (τ.newTok e es m) :=
  ⟨Nat.le_trans h.next (Nat.le_succ _), fun n hn => h.obj n hn, fun n hn => by have := h.next; rw [toks_newTok, if_neg (by omega)]; exact h.tok n hn⟩
theorem Agree.killTok {σ τ : Store} (h : Agree σ τ) {t : Nat} (ht : σ.next ≤ t) : Agree σ (τ.killTok t) :=
  ⟨h.next, fun n hn => h.obj n hn, fun n hn => by rw [toks_killTok, if_neg (by omega)]; exact h.tok n hn⟩
theorem Agree.setObj {σ τ : Store} (h : Agree σ τ) {m : Nat} (hm : σ.next ≤ m) (cs : List AV) : Agree σ (τ.setObj m cs) :=
  ⟨h.next, fun n hn => by rw [objs_setObj, if_neg (by omega)]; exact h.obj n hn, fun n hn => h.tok n hn⟩
theorem Agree.dropObj {σ τ : Store} (h : Agree σ τ) {m : Nat} (hm : σ.next ≤ m) : Agree σ (τ.dropObj m) :=
  ⟨h.next, fun n hn => by rw [objs_dropObj, if_neg (by omega)]; exact h.obj n hn, fun n hn => h.tok n hn⟩

theorem Store.Wf.newTok {σ : Store} (h : σ.Wf) (e es m : Nat) : (σ.newTok e es m).Wf :=
  ⟨fun n cs hn => by
    obtain ⟨h1, h2⟩ := h.obj n cs hn
    exact ⟨Nat.lt_succ_of_lt h1, fun y hy => by
      have := h2 y hy
      exact AV.Lt.mono this (Nat.le_succ _)⟩, fun t x ht => by
    rw [toks_newTok] at ht
    by_cases q : t = σ.next
    · rw [q]; exact Nat.lt_succ_self _
    · rw [if_neg q] at ht; exact Nat.lt_succ_of_lt (h.tok t x ht)⟩
theorem Store.Wf.newObj {σ : Store} (h : σ.Wf) {cs : List AV} (hc : ∀ y ∈ cs, AV.Lt (σ.next + 1) y) : (σ.newObj cs).Wf :=
  ⟨fun n ds hn => by
    rw [objs_newObj] at hn
    by_cases q : n = σ.next
    · rw [if_pos q] at hn; injection hn with hn; subst hn; exact ⟨by rw [q]; exact Nat.lt_succ_self _, hc⟩
    · rw [if_neg q] at hn
      obtain ⟨h1, h2⟩ := h.obj n ds hn
      exact ⟨Nat.lt_succ_of_lt h1, fun y hy => (h2 y hy).mono (Nat.le_succ _)⟩, fun t x ht => Nat.lt_succ_of_lt (h.tok t x ht)⟩
theorem Store.Wf.setObj {σ : Store} (h : σ.Wf) {m : Nat} (hm : m < σ.next) {cs : List AV} (hc : ∀ y ∈ cs, AV.Lt σ.next y) : (σ.setObj m cs).Wf :=
  ⟨fun n ds hn => by
    rw [objs_setObj] at hn
    by_cases q : n = m
    · rw [if_pos q] at hn; injection hn with hn; subst hn; exact ⟨by rw [q]; exact hm, hc⟩
    · rw [if_neg q] at hn; exact h.obj n ds hn, fun t x ht => h.tok t x ht⟩
theorem Store.Wf.killTok {σ : Store} (h : σ.Wf) (t : Nat) : (σ.killTok t).Wf :=
  ⟨h.obj, fun s x hs => by
    rw [toks_killTok] at hs
    by_cases q : s = t
    · simp [q] at hs
    · rw [if_neg q] at hs; exact h.tok s x hs⟩
theorem Store.Wf.dropObj {σ : Store} (h : σ.Wf) (n : Nat) : (σ.dropObj n).Wf :=
  ⟨fun m cs hm => by
    rw [objs_dropObj] at hm
    by_cases q : m = n
    · simp [q] at hm
    · rw [if_neg q] at hm; exact h.obj m cs hm, h.tok⟩

/-- From τ on to σ with new names for some of τ's rows. -/
theorem RelS.sub {F : Base} {g : Ghost} {σ τ : Store} {w : World} (h : RelS F g τ w) (hn : σ.next = τ.next) (ho : ∀ n cs, σ.objs n = some cs → τ.objs n = some cs) (ht : ∀ t x, σ.toks t = some x → τ.toks t = some x) : RelS F g σ w := by
  have ho' : ∀ n, (σ.objs n).isSome → (τ.objs n).isSome := fun n h1 => by obtain ⟨c, hc⟩ := Option.isSome_iff_exists.1 h1; rw [ho n c hc]; rfl
  have ht' : ∀ n, (σ.toks n).isSome → (τ.toks n).isSome := fun n h1 => by obtain ⟨c, hc⟩ := Option.isSome_iff_exists.1 h1; rw [ht n c hc]; rfl
  refine ⟨h.below, h.base, h.imm, fun n cs hc => by rw [hn]; exact h.obj n cs (ho n cs hc), fun t e es m hx => by rw [hn]; exact h.tok t e es m (ht t _ hx), fun m n h1 h2 => h.inj m n (ho' m h1) (ho' n h2), fun s t h1 h2 => h.injt s t (ht' s h1) (ht' t h2), fun n t h1 h2 => h.apart n t (ho' n h1) (ht' t h2)⟩

/-- The store σ with new rows, of these kinds. -/
def Store.newToks (σ : Store) : List (TypeId × Nat × Nat) → Store
  | [] => σ
  | x :: r => (σ.newTok x.1 x.2.1 x.2.2).newToks r

theorem newToks_spec : ∀ (l : List (TypeId × Nat × Nat)) (σ : Store), (σ.newToks l).next = σ.next + l.length ∧ (∀ n, (σ.newToks l).objs n = σ.objs n) ∧ ∀ t, (σ.newToks l).toks t = if σ.next ≤ t then (match l[t - σ.next]? with | some x => some x | none => σ.toks t) else σ.toks t
  | [], σ => ⟨rfl, fun _ => rfl, fun t => by simp [Store.newToks]⟩
  | x :: l, σ => by
    obtain ⟨h1, h2, h3⟩ := newToks_spec l (σ.newTok x.1 x.2.1 x.2.2)
    refine ⟨by simp only [Store.newToks, h1, next_newTok, List.length_cons]; omega, fun n => by simp only [Store.newToks, h2, objs_newTok], fun t => ?_⟩
    simp only [Store.newToks, h3, next_newTok, toks_newTok]
    by_cases q : t = σ.next
    · subst q
      rw [if_neg (by omega), if_pos rfl, if_pos (Nat.le_refl _)]
      simp
    · rw [if_neg q]
      by_cases q2 : σ.next ≤ t
      · rw [if_pos q2, if_pos (by omega)]
        have : t - σ.next = (t - (σ.next + 1)) + 1 := by omega
        rw [this]; simp
      · rw [if_neg q2, if_neg (by omega)]

theorem renToks {σ τ : Store} (hwf : σ.Wf) (ha : Agree σ τ) (ts : List Nat) (l : List (TypeId × Nat × Nat)) (hl : l.length = ts.length) (hts : ∀ (i t : Nat) (x : TypeId × Nat × Nat), ts[i]? = some t → l[i]? = some x → τ.toks t = some x) :
    (∀ F g w, RelS F g (τ.ren σ.next ts) w → RelS F g (σ.newToks l) w) ∧ (∀ n cs, n < σ.next → τ.objs n = some cs → ∀ x ∈ cs, AV.Lt σ.next x) := by
  obtain ⟨h1, h2, h3⟩ := newToks_spec l σ
  refine ⟨fun F g w hS => hS.sub (by rw [h1, hl]; rfl) (fun n cs hn => ?_) (fun t x ht => ?_), fun n cs hn hc => ?_⟩
  · rw [h2] at hn
    have := (hwf.obj n cs hn).1
    simp only [Store.ren]
    rw [if_pos this, ha.obj n this]; exact hn
  · rw [h3] at ht
    simp only [Store.ren]
    by_cases q : σ.next ≤ t
    · rw [if_pos q] at ht
      rw [if_neg (by omega)]
      cases hx : l[t - σ.next]? with
      | none =>
        rw [hx] at ht
        have := hwf.tok t x ht
        omega
      | some y =>
        rw [hx] at ht
        injection ht with ht
        subst ht
        have hlt := getElem?_lt hx
        have hs : ts[t - σ.next]? = some (ts[t - σ.next]'(by omega)) := List.getElem?_eq_getElem (by omega)
        rw [hs, Option.bind_some]
        exact hts _ _ _ hs hx
    · rw [if_neg q] at ht
      rw [if_pos (by omega), ha.tok t (by omega)]; exact ht
  · rw [ha.obj n hn] at hc
    exact (hwf.obj n cs hc).2

theorem Weak.toks {N k0 : Nat} {env env' : Env} {σ τ : Store} (hwf : σ.Wf) (hk : k0 ≤ σ.next) (ha : Agree σ τ) (ts : List Nat) (l : List (TypeId × Nat × Nat)) (hl : l.length = ts.length)
    (hts : ∀ (i t : Nat) (x : TypeId × Nat × Nat), ts[i]? = some t → l[i]? = some x → τ.toks t = some x) (hnd : ts.Nodup) (hge : ∀ t ∈ ts, σ.next ≤ t) (henv : ∀ p ∈ env', LeR σ.next ts (env.get p.1) p.2) : Weak N k0 env τ env' (σ.newToks l) := by
  obtain ⟨h1, h2⟩ := renToks hwf ha ts l hl hts
  have hW := Weak.ren (N := N) (k0 := k0) (env := env) (env' := env') σ.next ts hk rfl h2 hnd hge henv
  intro F g a w hS hE hk'
  obtain ⟨i1, g', i2, i3, i4⟩ := hW F g a w hS hE hk'
  have hn : (σ.newToks l).next = (τ.ren σ.next ts).next := by rw [(newToks_spec l σ).1, hl]; rfl
  exact ⟨by rw [hn]; exact i1, g', i2, h1 F g' w i3, by rw [hn]; exact i4⟩

/-- To σ: no row is handed on. -/
theorem Weak.none {N k0 : Nat} {env env' : Env} {σ τ : Store} (hwf : σ.Wf) (hk : k0 ≤ σ.next) (ha : Agree σ τ) (henv : ∀ p ∈ env', LeR σ.next [] (env.get p.1) p.2) : Weak N k0 env τ env' σ :=
  Weak.toks hwf hk ha [] [] rfl (fun i t x h => by simp at h) List.nodup_nil (fun t h => by simp at h) henv
theorem Weak.one {N k0 : Nat} {env env' : Env} {σ τ : Store} (hwf : σ.Wf) (hk : k0 ≤ σ.next) (ha : Agree σ τ) (t : Nat) {e : TypeId} {es m : Nat} (ht : τ.toks t = some (e, es, m)) (hge : σ.next ≤ t)
    (henv : ∀ p ∈ env', LeR σ.next [t] (env.get p.1) p.2) : Weak N k0 env τ env' (σ.newTok e es m) :=
  Weak.toks hwf hk ha [t] [(e, es, m)] rfl (fun i s x h h' => by
    cases i with
    | zero => simp at h h'; subst h; subst h'; exact ht
    | succ i => simp at h) (by simp) (fun s h => by simp at h; subst h; exact hge) henv

theorem WeakV.none {x y : AV} {σ τ : Store} (hwf : σ.Wf) (ha : Agree σ τ) (hx : LeR σ.next [] x y) : WeakV σ.next x τ y σ := by
  obtain ⟨h1, h2⟩ := renToks hwf ha [] [] rfl (fun i t x h => by simp at h)
  have hW := WeakV.ren (k0 := σ.next) (x := x) (x' := y) (σ := τ) (σ' := τ.ren σ.next []) [] rfl h2 List.nodup_nil (fun t h => by simp at h) hx
  intro F g w v hS hv hk
  obtain ⟨i1, g', i2, i3, i4⟩ := hW F g w v hS hv hk
  exact ⟨Nat.le_refl _, g', i2, h1 F g' w i3, i4⟩
theorem WeakV.one {x y : AV} {σ τ : Store} (hwf : σ.Wf) (ha : Agree σ τ) (t : Nat) {e : TypeId} {es m : Nat} (ht : τ.toks t = some (e, es, m)) (hge : σ.next ≤ t) (hx : LeR σ.next [t] x y) : WeakV σ.next x τ y (σ.newTok e es m) := by
  obtain ⟨h1, h2⟩ := renToks hwf ha [t] [(e, es, m)] rfl (fun i s x h h' => by
    cases i with
    | zero => simp at h h'; subst h; subst h'; exact ht
    | succ i => simp at h)
  have hW := WeakV.ren (k0 := σ.next) (x := x) (x' := y) (σ := τ) (σ' := τ.ren σ.next [t]) [t] rfl h2 (by simp) (fun s h => by simp at h; subst h; exact hge) hx
  intro F g w v hS hv hk
  obtain ⟨i1, g', i2, i3, i4⟩ := hW F g w v hS hv hk
  exact ⟨Nat.le_succ _, g', i2, h1 F g' w i3, i4⟩

theorem all_nil {p : Nat × AV → Prop} : ∀ x ∈ ([] : Env), p x := fun _ h => by cases h
theorem all_cons {p : Nat × AV → Prop} {s : Nat} {y : AV} {r : Env} (h : p (s, y)) (k : ∀ x ∈ r, p x) : ∀ x ∈ (s, y) :: r, p x := fun x hx => by
  cases hx with
  | head => exact h
  | tail _ hx => exact k x hx
theorem LeR.int (k : Nat) (ts : List Nat) {i : IntKind} {m n : Int} (h : m = n) : LeR k ts (.int i m) (.int i n) := by subst h; exact .pv _ _ _
theorem LeR.ptr {k : Nat} {ts : List Nat} {n off : Nat} (h : n < k) : LeR k ts (.ptr n off) (.ptr n off) := .same (.ptr h)
theorem LeR.row0 {k es t : Nat} {ts : List Nat} {xs ys : List (List PV)} (h : xs = ys) : LeR k (t :: ts) (.row t es xs) (.row k es ys) := by subst h; exact LeR.row (i := 0) rfl
theorem LeR.list' {k es : Nat} {ts : List Nat} {x : AV} {xs ys : List (List PV)} (hx : x.list? es = some xs) (h : xs = ys) : LeR k ts x (.pv (.lst es ys)) := by subst h; exact LeR.list hx
end Go.Proofs.Ytnanpamfdjnomaa.AL
