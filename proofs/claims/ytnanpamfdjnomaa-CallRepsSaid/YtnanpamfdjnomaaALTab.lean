/- AL: one table of all operations. -/
import Derived.Test.YtnanpamfdjnomaaALOps4
namespace Go.Proofs.Ytnanpamfdjnomaa.AL
open Go Go.RowKit

def unA (op : UnOp) : AV → Option AV
  | .pv (.val (.bool b)) => match op with | .not => some (.bool (!b)) | _ => none
  | .pv (.val (.int k n)) => match op with | .neg => some (.int k (k.wrap (0 - n))) | _ => none
  | _ => none

def appA (P : Program) (σ : Store) (t t' : TypeId) (x y : AV) : Option (Prop × AV × Store) :=
  if t' = t then
    match tSl P t with
    | some (e, es, b) => match y.list? es with
      | some ys => match x with
        | .row s es' xs => if es' = es then some (σ.toks s = some (e, es, xs.length) ∧ (xs.length + ys.length) * b ≤ 140737488355328 ∧ xs.length + ys.length ≤ maxLen, .row σ.next es (xs ++ ys), (σ.killTok s).newTok e es (xs.length + ys.length)) else none
        | .full es' xs => if es' = es then some ((xs.length + ys.length) * b ≤ 140737488355328 ∧ xs.length + ys.length ≤ maxLen, .row σ.next es (xs ++ ys), σ.newTok e es (xs.length + ys.length)) else none
        | .pv (.val (.slice none 0 0)) => some (ys.length * b ≤ 140737488355328 ∧ ys.length ≤ maxLen, .row σ.next es ys, σ.newTok e es ys.length)
        | _ => none
      | none => none
    | none => none
  else none

def lenA (P : Program) (t : TypeId) (x : AV) : Option AV :=
  match x with
  | .pv (.val (.string s)) => if tStr P t then some (.int .i64 s.size) else none
  | .sl _ _ len _ => if (tSl P t).isSome then some (.int .i64 len) else none
  | x => match tSl P t with
    | some (_, es, _) => (x.list? es).map fun xs => .int .i64 xs.length
    | none => match P.underlying t with
      | some (.array n _) => some (.int .i64 n)
      | _ => none

def capA (P : Program) (t : TypeId) (x : AV) : Option AV :=
  if (tSl P t).isSome then
    match x with
    | .pv (.val (.slice none 0 0)) => some (.int .i64 0)
    | .sl _ _ _ cap => some (.int .i64 cap)
    | .full _ xs => some (.int .i64 xs.length)
    | _ => none
  else none
theorem capA_sound {P : Program} {t ty : TypeId} {x r : AV} (h : capA P t x = some r) {g : Ghost} {k : Nat} {u : Value} (hx : VR g k x u) (w : World) :
    ∃ v, (Builtin.cap_ #[t] ty #[u]).run P w = .ok v w ∧ VR g k r v := by
  unfold capA at h
  split at h
  · rename_i ht
    obtain ⟨⟨e, es, b⟩, ht⟩ := Option.isSome_iff_exists.1 ht
    obtain ⟨hu, _⟩ := tSl_spec ht
    split at h
    · injection h with h; subst h
      have := hx.val_eq; subst this
      exact ⟨_, by simp [Builtin.cap_, run_underlying hu, goInt], .pv (.val _)⟩
    · injection h with h; subst h
      cases hx with
      | sl hn => exact ⟨_, by simp [Builtin.cap_, run_underlying hu, goInt], .pv (.val _)⟩
    · injection h with h; subst h
      cases hx with
      | full r => exact ⟨_, by simp [Builtin.cap_, run_underlying hu, goInt], .pv (.val _)⟩
    · cases h
  · cases h

def min2 (x y : AV) : Option AV :=
  match x, y with
  | .pv (.val (.int k a)), .pv (.val (.int k' b)) => if k = k' then some (.int k (if b < a then b else a)) else none
  | _, _ => none
def max2 (x y : AV) : Option AV :=
  match x, y with
  | .pv (.val (.int k a)), .pv (.val (.int k' b)) => if k = k' then some (.int k (if b > a then b else a)) else none
  | _, _ => none

def makeA (P : Program) (σ : Store) (t : TypeId) (l c : AV) : Option (Prop × AV × Store) :=
  match l, c with
  | .pv (.val (.int _ l)), .pv (.val (.int _ c)) => match tSl P t with
    | some (e, 1, b) => match tZero P e with
      | some [z] => some (0 ≤ l ∧ l ≤ c ∧ (b : Int) * c ≤ 281474976710656 ∧ c ≤ 9223372036854775807, .sl σ.next 0 l.toNat c.toNat, σ.newObj (List.replicate c.toNat (.pv (.val z))))
      | _ => none
    | _ => none
  | _, _ => none

/-- What a call of a builtin leaves. -/
def builtinA (P : Program) (b : Builtin) (ts : List TypeId) (xs : List AV) (σ : Store) : Option (Prop × AV × Store) :=
  match b, ts, xs with
  | .len, [t], [x] => (lenA P t x).map fun r => (True, r, σ)
  | .append, [t, t'], [x, y] => appA P σ t t' x y
  | .cap, [t], [x] => (capA P t x).map fun r => (True, r, σ)
  | .min, _, [x, y] => (min2 x y).map fun r => (True, r, σ)
  | .max, _, [x, y] => (max2 x y).map fun r => (True, r, σ)
  | _, _, _ => none

def exA (P : Program) (op : Op) (env : Env) (σ : Store) : Option (Prop × AV × Store) :=
  match op with
  | .move x => some (True, evalA env x, σ)
  | .assign x => some (True, evalA env x, σ)
  | .pick c a b => match evalA env c with
    | .pv (.val (.bool q)) => some (True, pickA q (evalA env a) (evalA env b), σ)
    | _ => none
  | .binOp op t x y _ => (binA P op t (evalA env x) (evalA env y)).map fun r => (r.1, r.2, σ)
  | .unOp op _ x => (unA op (evalA env x)).map fun r => (True, r, σ)
  | .convert s d x => (convA P s d (evalA env x)).map fun r => (True, r, σ)
  | .fieldAddr t x f => (fieldA P t f (evalA env x)).map fun r => (True, r, σ)
  | .indexAddr t x i => (indexA P t (evalA env x) (evalA env i)).map fun r => (r.1, r.2, σ)
  | .load t x => match tSA P t with
    | some s => (readA σ s (evalA env x)).map fun r => (True, r, σ)
    | none => none
  | .store t x y => match tSA P t with
    | some s => (writeA σ s.1 (evalA env x) (evalA env y)).map fun s' => (True, .any, s')
    | none => none
  | .slice t x lo hi none => (sliceA P t (evalA env x) (lo.map (evalA env)) (hi.map (evalA env))).map fun r => (r.1, r.2, σ)
  | .alloc t => (tZero P t).map fun z => (True, .ptr σ.next 0, σ.newObj (z.map fun v => .pv (.val v)))
  | .box _ x => (evalA env x).cells?.map fun cs => (True, .ptr σ.next 0, σ.newObj cs)
  | .build t parts => (buildA P t (parts.toList.map fun p => (p.1, evalA env p.2))).map fun r => (True, r, σ)
  | .buildSlice t len parts => match tSl P t with
    | some (_, es, _) => if parts.size = len ∧ len * es ≤ 16777216 then (litsA es 0 (parts.toList.map fun p => (p.1, evalA env p.2))).map fun xs => (True, .full es xs, σ) else none
    | none => none
  | .extract x i => match evalA env x with
    | .tup vs => (vs[i]?).map fun r => (True, r, σ)
    | _ => none
  | .nilCheck x => match evalA env x with
    | .ptr n off => some (True, .ptr n off, σ)
    | .ia cs off => some (True, .ia cs off, σ)
    | .pv (.val (.func (.func f) a b)) => some (True, .pv (.val (.func (.func f) a b)), σ)
    | _ => none
  | .makeSlice t l c => makeA P σ t (evalA env l) (evalA env c)
  | .call { callee := .builtin b, args, argTypes } => builtinA P b argTypes.toList (args.toList.map (evalA env)) σ
  | _ => none

theorem run_v {P : Program} {w w' : World} {s : Sem Value} {v : Value} (h : s.run P w = .ok v w') : (do pure (Next.value (← s)) : Sem Next).run P w = .ok (.value v) w' := by simp [h]

theorem RelE.evals {N : Nat} {g : Ghost} {k : Nat} {env : Env} {a : Act} (h : RelE N g k env a) (parts : Array (Nat × Operand)) :
    (parts.toList.map fun p => (p.1, evalA env p.2)).length = (parts.map fun (i, x) => (i, a.eval x)).size ∧
    ∀ (i : Nat) (p : Nat × AV) (q : Nat × Value), (parts.toList.map fun p => (p.1, evalA env p.2))[i]? = some p → (parts.map fun (i, x) => (i, a.eval x))[i]? = some q → p.1 = q.1 ∧ VR g k p.2 q.2 := by
  refine ⟨by simp, fun i p q hp hq => ?_⟩
  rw [List.getElem?_map] at hp
  rw [Array.getElem?_map] at hq
  simp only [Array.getElem?_toList] at hp
  cases hx : parts[i]? with
  | none => rw [hx] at hp; cases hp
  | some x =>
    rw [hx] at hp hq
    simp only [Option.map_some, Option.some.injEq] at hp hq
    subst hp; subst hq
    exact ⟨rfl, h.eval _⟩

theorem appA_sound {P : Program} {σ σ' : Store} {t t' ty : TypeId} {x y r : AV} {c : Prop} (h : appA P σ t t' x y = some (c, r, σ')) (hc : c) {F : Base} {g : Ghost} {w : World} (hS : RelS F g σ w) {u v : Value} (hx : VR g σ.next x u) (hy : VR g σ.next y v) :
    ∃ z w' g', (Builtin.append_ #[t, t'] ty #[u, v]).run P w = .ok z w' ∧ Ghost.le σ.next g g' ∧ RelS F g' σ' w' ∧ VR g' σ'.next r z ∧ σ.next ≤ σ'.next := by
  unfold appA at h
  split at h
  · rename_i htt
    subst htt
    split at h
    · rename_i e es b ht
      obtain ⟨hu, i, z, hi, hz, hzs, hpos, rfl, rfl⟩ := tSl_spec ht
      split at h
      · rename_i ys hys
        have hsrc := hy.list hys
        split at h
        · rename_i s es' xs
          split at h
          · rename_i he
            subst he
            simp only [Option.some.injEq, Prod.mk.injEq] at h
            obtain ⟨rfl, rfl, rfl⟩ := h
            obtain ⟨v', w', h1, g', h2, h3, h4⟩ := run_append_list hS t' ty e i z hu hi hz hzs hpos hsrc hc.2.1 hc.2.2 (some s) ⟨hx, hc.1⟩
            exact ⟨v', w', g', h1, h2, h3, h4, Nat.le_succ _⟩
          · cases h
        · rename_i es' xs
          split at h
          · rename_i he
            subst he
            simp only [Option.some.injEq, Prod.mk.injEq] at h
            obtain ⟨rfl, rfl, rfl⟩ := h
            obtain ⟨v', w', h1, g', h2, h3, h4⟩ := run_append_list hS t' ty e i z hu hi hz hzs hpos hsrc hc.1 hc.2 none hx
            exact ⟨v', w', g', h1, h2, h3, h4, Nat.le_succ _⟩
          · cases h
        · simp only [Option.some.injEq, Prod.mk.injEq] at h
          obtain ⟨rfl, rfl, rfl⟩ := h
          have hx' : VR g σ.next (.full i.size []) u := by
            have := hx.val_eq; subst this
            exact .full (.nil _)
          obtain ⟨v', w', h1, g', h2, h3, h4⟩ := run_append_list hS t' ty e i z hu hi hz hzs hpos hsrc (by simpa using hc.1) (by simpa using hc.2) none hx'
          simp only [List.length_nil, Nat.zero_add, List.nil_append] at h3 h4
          exact ⟨v', w', g', h1, h2, h3, h4, Nat.le_succ _⟩
        · cases h
      · cases h
    · cases h
  · cases h

theorem lenA_sound {P : Program} {t ty : TypeId} {x r : AV} (h : lenA P t x = some r) {g : Ghost} {k : Nat} {u : Value} (hx : VR g k x u) (w : World) :
    ∃ v, (Builtin.len_ #[t] ty #[u]).run P w = .ok v w ∧ VR g k r v := by
  unfold lenA at h
  split at h
  · rename_i s
    have := hx.val_eq; subst this
    split at h
    · rename_i ht
      have hu : P.underlying t = some .string := by
        unfold tStr at ht
        split at ht <;> simp_all
      injection h with h; subst h
      exact ⟨_, by simp [Builtin.len_, run_underlying hu, goInt], .pv (.val _)⟩
    · cases h
  · split at h
    · rename_i ht
      obtain ⟨⟨e, es, b⟩, ht⟩ := Option.isSome_iff_exists.1 ht
      obtain ⟨hu, _⟩ := tSl_spec ht
      injection h with h; subst h
      cases hx with
      | sl hn => exact ⟨_, by simp [Builtin.len_, run_underlying hu, goInt], .pv (.val _)⟩
    · cases h
  · split at h
    · rename_i e es b ht
      obtain ⟨hu, _⟩ := tSl_spec ht
      cases hxs : x.list? es with
      | none => rw [hxs] at h; cases h
      | some xs =>
        rw [hxs] at h
        simp only [Option.map_some, Option.some.injEq] at h
        subst h
        obtain ⟨cells, hf, hv⟩ := (hx.list hxs).flat
        rcases hv with ⟨rfl, rfl⟩ | ⟨_, _, _, rfl, rfl⟩ | ⟨b, o, cap, rfl, hcap, hI⟩
        · exact ⟨_, by simp [Builtin.len_, run_underlying hu, goInt], .pv (.val _)⟩
        · exact ⟨_, by simp [Builtin.len_, run_underlying hu, goInt], .pv (.val _)⟩
        · exact ⟨_, by simp [Builtin.len_, run_underlying hu, goInt], .pv (.val _)⟩
    · split at h
      · rename_i n e hu
        injection h with h; subst h
        exact ⟨_, by simp [Builtin.len_, run_underlying hu, goInt], .pv (.val _)⟩
      · cases h

theorem madeCells_one (z : Value) (n : Nat) : madeCells #[z] n = Array.replicate n z := by
  apply Array.ext'
  rw [toList_madeCells_one]; simp

theorem makeA_sound {P : Program} {σ σ' : Store} {t : TypeId} {l c r : AV} {q : Prop} (h : makeA P σ t l c = some (q, r, σ')) (hq : q) {F : Base} {g : Ghost} {w : World} (hS : RelS F g σ w) {u v : Value} (hl : VR g σ.next l u) (hc : VR g σ.next c v) :
    ∃ z w' g', (Instr.makeSlice t u v).run P w = .ok z w' ∧ Ghost.le σ.next g g' ∧ RelS F g' σ' w' ∧ VR g' σ'.next r z ∧ σ.next ≤ σ'.next := by
  unfold makeA at h
  split at h
  · rename_i k1 l' k2 c'
    have := hl.val_eq; subst this
    have := hc.val_eq; subst this
    split at h
    · rename_i e b ht
      obtain ⟨hu, i, z, hi, hz, hzs, hpos, he, rfl⟩ := tSl_spec ht
      split at h
      · rename_i z0 hz0
        simp only [Option.some.injEq, Prod.mk.injEq] at h
        obtain ⟨rfl, rfl, rfl⟩ := h
        have hzc : z.cells = #[z0] := by
          simp only [tZero, hi, Option.bind_some, hz, Option.map_some, Option.some.injEq] at hz0
          apply Array.ext'; simpa using hz0
        have hr := run_make (P := P) w t e i z hu hi hz k1 k2 l' c' hq.1 hq.2.1 hq.2.2.1 hq.2.2.2
        rw [hzc, ← he, Nat.mul_one, madeCells_one] at hr
        have hN := hS.newObj (Array.replicate c'.toNat z0) e (List.replicate c'.toNat (.pv (.val z0))) (by simp) (fun j x hx => by
          have hj := getElem?_lt hx
          simp only [List.length_replicate] at hj
          rw [List.getElem?_replicate, if_pos hj] at hx
          injection hx with hx; subst hx
          have : (Array.replicate c'.toNat z0).getD j undef = z0 := by simp [Array.getD, hj]
          rw [this]
          exact .pv (.val _))
        refine ⟨_, _, _, hr, Ghost.le_named _ _ _ _ _, hN, ?_, Nat.le_succ _⟩
        have := VR.sl (g := g.named σ.next w.heap.size 0 false) (k := σ.next + 1) (n := σ.next) (off := 0) (len := l'.toNat) (cap := c'.toNat) (by omega)
        simpa [Ghost.named, upd, Store.newObj] using this
      · cases h
    · cases h
  · cases h

theorem exA_sound {P : Program} {N : Nat} {o : Oper} {env : Env} {σ σ' : Store} {c : Prop} {x : AV} {K : AV → Store → Prop} (h : exA P o.op env σ = some (c, x, σ')) (hc : c) (hK : K x σ') : AOp P N o env σ K := by
  obtain ⟨dst, op, type, pos, after, guard⟩ := o
  dsimp only at h
  cases op
  case move y =>
    simp only [exA, Option.some.injEq, Prod.mk.injEq] at h
    obtain ⟨rfl, rfl, rfl⟩ := h
    exact AOp.quiet (fun F g a w hS hE => ⟨_, rfl, hE.eval y⟩) hK
  case assign y =>
    simp only [exA, Option.some.injEq, Prod.mk.injEq] at h
    obtain ⟨rfl, rfl, rfl⟩ := h
    exact AOp.quiet (fun F g a w hS hE => ⟨_, rfl, hE.eval y⟩) hK
  case pick c a b =>
    simp only [exA] at h
    split at h
    · rename_i q hq
      simp only [Option.some.injEq, Prod.mk.injEq] at h
      obtain ⟨rfl, rfl, rfl⟩ := h
      refine AOp.quiet (fun F g ac w hS hE => ?_) hK
      have h1 := hE.eval c
      rw [hq] at h1
      have h2 := h1.val_eq
      exact ⟨_, by simp [execOp, h2, asBool], pickA_sound (hE.eval a) (hE.eval b)⟩
    · cases h
  case binOp op t y z yt =>
    simp only [exA] at h
    cases hb : binA P op t (evalA env y) (evalA env z) with
    | none => rw [hb] at h; cases h
    | some r =>
      rw [hb] at h
      simp only [Option.map_some, Option.some.injEq, Prod.mk.injEq] at h
      obtain ⟨rfl, rfl, rfl⟩ := h
      refine AOp.quiet (fun F g a w hS hE => ?_) hK
      obtain ⟨v, h1, h2⟩ := binA_sound (c := r.1) (r := r.2) hb hc y z (hE.eval y) (hE.eval z) w
      exact ⟨v, run_v h1, h2⟩
  case unOp op t y =>
    simp only [exA] at h
    cases hb : unA op (evalA env y) with
    | none => rw [hb] at h; cases h
    | some r =>
      rw [hb] at h
      simp only [Option.map_some, Option.some.injEq, Prod.mk.injEq] at h
      obtain ⟨rfl, rfl, rfl⟩ := h
      refine AOp.quiet (fun F g a w hS hE => ?_) hK
      have h1 := hE.eval y
      unfold unA at hb
      split at hb
      · rename_i b hy
        rw [hy] at h1
        have h2 := h1.val_eq
        cases op <;> simp only at hb <;> first
          | (cases hb; done)
          | (injection hb with hb; subst hb; exact ⟨_, by simp [execOp, h2, Op.unary], .pv (.val _)⟩)
      · rename_i b hy
        rw [hy] at h1
        have h2 := h1.val_eq
        cases op <;> simp only at hb <;> first
          | (cases hb; done)
          | (injection hb with hb; subst hb; exact ⟨_, by simp [execOp, h2, Op.unary, Op.intArith], .pv (.val _)⟩)
      · cases hb
  case convert s d y =>
    simp only [exA] at h
    cases hb : convA P s d (evalA env y) with
    | none => rw [hb] at h; cases h
    | some r =>
      rw [hb] at h
      simp only [Option.map_some, Option.some.injEq, Prod.mk.injEq] at h
      obtain ⟨rfl, rfl, rfl⟩ := h
      refine AOp.quiet (fun F g a w hS hE => ?_) hK
      obtain ⟨v, h1, h2⟩ := convA_sound hb hS (hE.eval y)
      exact ⟨v, run_v h1, h2⟩
  case fieldAddr t y f =>
    simp only [exA] at h
    cases hb : fieldA P t f (evalA env y) with
    | none => rw [hb] at h; cases h
    | some r =>
      rw [hb] at h
      simp only [Option.map_some, Option.some.injEq, Prod.mk.injEq] at h
      obtain ⟨rfl, rfl, rfl⟩ := h
      refine AOp.quiet (fun F g a w hS hE => ?_) hK
      obtain ⟨v, h1, h2⟩ := fieldA_sound hb (hE.eval y) w
      exact ⟨v, run_v h1, h2⟩
  case indexAddr t y i =>
    simp only [exA] at h
    cases hb : indexA P t (evalA env y) (evalA env i) with
    | none => rw [hb] at h; cases h
    | some r =>
      rw [hb] at h
      simp only [Option.map_some, Option.some.injEq, Prod.mk.injEq] at h
      obtain ⟨rfl, rfl, rfl⟩ := h
      refine AOp.quiet (fun F g a w hS hE => ?_) hK
      obtain ⟨v, h1, h2⟩ := indexA_sound (c := r.1) (r := r.2) hb hc (hE.eval y) (hE.eval i) w
      exact ⟨v, run_v h1, h2⟩
  case load t y =>
    simp only [exA] at h
    split at h
    · rename_i s ht
      cases hb : readA σ s (evalA env y) with
      | none => rw [hb] at h; cases h
      | some r =>
        rw [hb] at h
        simp only [Option.map_some, Option.some.injEq, Prod.mk.injEq] at h
        obtain ⟨rfl, rfl, rfl⟩ := h
        refine AOp.quiet (fun F g a w hS hE => ?_) hK
        obtain ⟨v, h1, h2⟩ := readA_sound (n := s.1) (b := s.2) hS ht hb (hE.eval y)
        exact ⟨v, run_v h1, h2⟩
    · cases h
  case store t y z =>
    simp only [exA] at h
    split at h
    · rename_i s ht
      cases hb : writeA σ s.1 (evalA env y) (evalA env z) with
      | none => rw [hb] at h; cases h
      | some s' =>
        rw [hb] at h
        simp only [Option.map_some, Option.some.injEq, Prod.mk.injEq] at h
        obtain ⟨rfl, rfl, rfl⟩ := h
        have hn : s'.next = σ.next := by
          unfold writeA at hb
          split at hb
          · split at hb
            · split at hb
              · injection hb with hb; subst hb; rfl
              · cases hb
            · cases hb
          · cases hb
        refine AOp.skip (fun F g a w hS hE => ?_) (by omega) hK
        obtain ⟨w', h1, h2, h3⟩ := writeA_sound (n := s.1) (b := s.2) hS ht hb (hE.eval y) (hE.eval z)
        exact ⟨w', g, by simp [execOp, h1], .refl _ _, h2⟩
    · cases h
  case slice t y lo hi mx =>
    cases mx with
    | some m => simp [exA] at h
    | none =>
      simp only [exA] at h
      cases hb : sliceA P t (evalA env y) (lo.map (evalA env)) (hi.map (evalA env)) with
      | none => rw [hb] at h; cases h
      | some r =>
        rw [hb] at h
        simp only [Option.map_some, Option.some.injEq, Prod.mk.injEq] at h
        obtain ⟨rfl, rfl, rfl⟩ := h
        refine AOp.quiet (fun F g a w hS hE => ?_) hK
        have rel : ∀ o : Option Operand, (∀ x, o.map (evalA env) = some x → ∃ v, o.map a.eval = some v ∧ VR g σ.next x v) ∧ (o.map (evalA env) = none → o.map a.eval = none) := fun o => by
          cases o with
          | none => exact ⟨fun x hx => (by cases hx), fun _ => rfl⟩
          | some q => exact ⟨fun x hx => (by injection hx with hx; subst hx; exact ⟨_, rfl, hE.eval q⟩), fun hx => (by cases hx)⟩
        obtain ⟨v, h1, h2⟩ := sliceA_sound (c := r.1) (r := r.2) (lo' := lo.map a.eval) (hi' := hi.map a.eval) hb hc (hE.eval y) (rel lo).1 (rel lo).2 (rel hi).1 (rel hi).2 w
        exact ⟨v, by simp [execOp, h1], h2⟩
  case alloc t =>
    simp only [exA] at h
    cases hb : tZero P t with
    | none => rw [hb] at h; cases h
    | some z =>
      rw [hb] at h
      simp only [Option.map_some, Option.some.injEq, Prod.mk.injEq] at h
      obtain ⟨rfl, rfl, rfl⟩ := h
      refine AOp.step (fun F g a w hS hE => ?_) (Nat.le_succ _) hK
      unfold tZero at hb
      cases hi : P.info? t with
      | none => rw [hi] at hb; cases hb
      | some i =>
        rw [hi] at hb
        simp only [Option.bind_some] at hb
        cases hz : i.zero with
        | none => rw [hz] at hb; cases hb
        | some v =>
          rw [hz] at hb
          simp only [Option.map_some, Option.some.injEq] at hb
          subst hb
          obtain ⟨g', h1, h2, h3⟩ := hS.newPtr v t (v.cells.toList.map fun v => .pv (.val v)) (by simp) (fun j y hj => by
            rw [List.getElem?_map] at hj
            cases hq : v.cells.toList[j]? with
            | none => rw [hq] at hj; cases hj
            | some q =>
              rw [hq] at hj
              simp only [Option.map_some, Option.some.injEq] at hj
              subst hj
              have : v.cells.getD j undef = q := by simp at hq; simp [Array.getD_eq_getD_getElem?, hq]
              rw [this]; exact .pv (.val _))
          exact ⟨_, _, g', by simp [execOp, Instr.alloc, zeroValue, typeInfo, hi, hz, newVar_run], h1, h2, h3⟩
  case box t y =>
    simp only [exA] at h
    cases hb : (evalA env y).cells? with
    | none => rw [hb] at h; cases h
    | some cs =>
      rw [hb] at h
      simp only [Option.map_some, Option.some.injEq, Prod.mk.injEq] at h
      obtain ⟨rfl, rfl, rfl⟩ := h
      refine AOp.step (fun F g a w hS hE => ?_) (Nat.le_succ _) hK
      obtain ⟨h1, h2⟩ := (hE.eval y).cells hb
      obtain ⟨g', h3, h4, h5⟩ := hS.newPtr (a.eval y) t cs h1 h2
      exact ⟨_, _, g', by simp [execOp, Instr.box, newVar_run], h3, h4, h5⟩
  case build t parts =>
    simp only [exA] at h
    cases hb : buildA P t (parts.toList.map fun p => (p.1, evalA env p.2)) with
    | none => rw [hb] at h; cases h
    | some r =>
      rw [hb] at h
      simp only [Option.map_some, Option.some.injEq, Prod.mk.injEq] at h
      obtain ⟨rfl, rfl, rfl⟩ := h
      refine AOp.quiet (fun F g a w hS hE => ?_) hK
      obtain ⟨h1, h2⟩ := hE.evals parts
      obtain ⟨v, h3, h4⟩ := buildA_sound hb h1 h2 w
      exact ⟨v, run_v h3, h4⟩
  case buildSlice t len parts =>
    simp only [exA] at h
    split at h
    · rename_i e es b ht
      split at h
      · rename_i hl
        cases hb : litsA es 0 (parts.toList.map fun p => (p.1, evalA env p.2)) with
        | none => rw [hb] at h; cases h
        | some xs =>
          rw [hb] at h
          simp only [Option.map_some, Option.some.injEq, Prod.mk.injEq] at h
          obtain ⟨rfl, rfl, rfl⟩ := h
          refine AOp.step (fun F g a w hS hE => ?_) (Nat.le_refl _) hK
          obtain ⟨h1, h2⟩ := hE.evals parts
          obtain ⟨v, w', g', h3, h4, h5, h6⟩ := buildSlice_rel hS ht (by simp [hl.1]) hl.2 h1 h2 hb
          exact ⟨v, w', g', run_v h3, h4, h5, h6⟩
      · cases h
    · cases h
  case extract y i =>
    simp only [exA] at h
    split at h
    · rename_i vs hy
      cases hb : vs[i]? with
      | none => rw [hb] at h; cases h
      | some r =>
        rw [hb] at h
        simp only [Option.map_some, Option.some.injEq, Prod.mk.injEq] at h
        obtain ⟨rfl, rfl, rfl⟩ := h
        refine AOp.quiet (fun F g a w hS hE => ?_) hK
        have h1 := hE.eval y
        rw [hy] at h1
        generalize hev : a.eval y = u at h1
        cases h1 with
        | tup us hs hv =>
          have hlt : i < us.size := by rw [hs]; exact getElem?_lt hb
          have := hv i r hb
          refine ⟨us[i], by simp [execOp, hev, Instr.extract, hlt], ?_⟩
          simpa [Array.getD, hlt] using this
    · cases h
  case nilCheck y =>
    simp only [exA] at h
    split at h
    · rename_i n off hy
      simp only [Option.some.injEq, Prod.mk.injEq] at h
      obtain ⟨rfl, rfl, rfl⟩ := h
      refine AOp.quiet (fun F g a w hS hE => ?_) hK
      have h1 := hE.eval y
      rw [hy] at h1
      generalize hev : a.eval y = u at h1
      have h1' := h1
      cases h1 with
      | ptr hn => exact ⟨_, by simp [execOp, hev], h1'⟩
    · rename_i cs off hy
      simp only [Option.some.injEq, Prod.mk.injEq] at h
      obtain ⟨rfl, rfl, rfl⟩ := h
      refine AOp.quiet (fun F g a w hS hE => ?_) hK
      have h1 := hE.eval y
      rw [hy] at h1
      generalize hev : a.eval y = u at h1
      have h1' := h1
      cases h1 with
      | ia vs hI hV => exact ⟨_, by simp [execOp, hev], h1'⟩
    · rename_i f fa fb hy
      simp only [Option.some.injEq, Prod.mk.injEq] at h
      obtain ⟨rfl, rfl, rfl⟩ := h
      refine AOp.quiet (fun F g a w hS hE => ?_) hK
      have h1 := hE.eval y
      rw [hy] at h1
      have h2 := h1.val_eq
      exact ⟨_, by simp [execOp, h2], .pv (.val _)⟩
    · cases h
  case makeSlice t l c' =>
    simp only [exA] at h
    have hn : σ.next ≤ σ'.next := by
      unfold makeA at h
      split at h
      · split at h
        · split at h
          · simp only [Option.some.injEq, Prod.mk.injEq] at h
            obtain ⟨_, _, rfl⟩ := h
            exact Nat.le_succ _
          · cases h
        · cases h
      · cases h
    refine AOp.step (fun F g a w hS hE => ?_) hn hK
    obtain ⟨z, w', g', h1, h2, h3, h4, h5⟩ := makeA_sound h hc hS (hE.eval l) (hE.eval c')
    exact ⟨z, w', g', run_v h1, h2, h3, h4⟩
  case call cl =>
    obtain ⟨callee, args, argTypes⟩ := cl
    cases callee with
    | builtin b =>
      simp only [exA] at h
      unfold builtinA at h
      split at h
      · rename_i t y hts hxs
        cases hb : lenA P t y with
        | none => rw [hb] at h; cases h
        | some r =>
          rw [hb] at h
          simp only [Option.map_some, Option.some.injEq, Prod.mk.injEq] at h
          obtain ⟨rfl, rfl, rfl⟩ := h
          refine AOp.quiet (fun F g a w hS hE => ?_) hK
          obtain ⟨q, hq, rfl⟩ : ∃ q, args = #[q] ∧ evalA env q = y := by
            obtain ⟨l⟩ := args
            cases l with
            | nil => simp at hxs
            | cons q l => cases l with
              | nil => simp at hxs; exact ⟨q, rfl, hxs⟩
              | cons => simp at hxs
          subst hq
          obtain rfl : argTypes = #[t] := by obtain ⟨l⟩ := argTypes; simp at hts; simp [hts]
          obtain ⟨v, h1, h2⟩ := lenA_sound (ty := type) hb (hE.eval q) w
          exact ⟨v, by simp [execOp, resolve, invoke, builtin, h1], h2⟩
      · rename_i t t' y z hts hxs
        obtain ⟨q1, q2, hq, rfl, rfl⟩ : ∃ q1 q2, args = #[q1, q2] ∧ evalA env q1 = y ∧ evalA env q2 = z := by
          obtain ⟨l⟩ := args
          cases l with
          | nil => simp at hxs
          | cons q l => cases l with
            | nil => simp at hxs
            | cons q' l => cases l with
              | nil => simp at hxs; exact ⟨q, q', rfl, hxs.1, hxs.2⟩
              | cons => simp at hxs
        subst hq
        obtain rfl : argTypes = #[t, t'] := by obtain ⟨l⟩ := argTypes; simp at hts; simp [hts]
        have hn : σ.next ≤ σ'.next := by
          unfold appA at h
          split at h
          · split at h
            · split at h
              · split at h
                · split at h
                  · simp only [Option.some.injEq, Prod.mk.injEq] at h
                    obtain ⟨_, _, rfl⟩ := h
                    exact Nat.le_succ _
                  · cases h
                · split at h
                  · simp only [Option.some.injEq, Prod.mk.injEq] at h
                    obtain ⟨_, _, rfl⟩ := h
                    exact Nat.le_succ _
                  · cases h
                · simp only [Option.some.injEq, Prod.mk.injEq] at h
                  obtain ⟨_, _, rfl⟩ := h
                  exact Nat.le_succ _
                · cases h
              · cases h
            · cases h
          · cases h
        refine AOp.step (fun F g a w hS hE => ?_) hn hK
        obtain ⟨v, w', g', h1, h2, h3, h4, h5⟩ := appA_sound (ty := type) h hc hS (hE.eval q1) (hE.eval q2)
        exact ⟨v, w', g', by simp [execOp, resolve, invoke, builtin, h1], h2, h3, h4⟩
      · rename_i t y hts hxs
        cases hb : capA P t y with
        | none => rw [hb] at h; cases h
        | some r =>
          rw [hb] at h
          simp only [Option.map_some, Option.some.injEq, Prod.mk.injEq] at h
          obtain ⟨rfl, rfl, rfl⟩ := h
          refine AOp.quiet (fun F g a w hS hE => ?_) hK
          obtain ⟨q, hq, rfl⟩ : ∃ q, args = #[q] ∧ evalA env q = y := by
            obtain ⟨l⟩ := args
            cases l with
            | nil => simp at hxs
            | cons q l => cases l with
              | nil => simp at hxs; exact ⟨q, rfl, hxs⟩
              | cons => simp at hxs
          subst hq
          obtain rfl : argTypes = #[t] := by obtain ⟨l⟩ := argTypes; simp at hts; simp [hts]
          obtain ⟨v, h1, h2⟩ := capA_sound (ty := type) hb (hE.eval q) w
          exact ⟨v, by simp [execOp, resolve, invoke, builtin, h1], h2⟩
      · rename_i y z hxs
        obtain ⟨q1, q2, hq, rfl, rfl⟩ : ∃ q1 q2, args = #[q1, q2] ∧ evalA env q1 = y ∧ evalA env q2 = z := by
          obtain ⟨l⟩ := args
          cases l with
          | nil => simp at hxs
          | cons q l => cases l with
            | nil => simp at hxs
            | cons q' l => cases l with
              | nil => simp at hxs; exact ⟨q, q', rfl, hxs.1, hxs.2⟩
              | cons => simp at hxs
        subst hq
        cases hb : min2 (evalA env q1) (evalA env q2) with
        | none => rw [hb] at h; cases h
        | some r =>
          rw [hb] at h
          simp only [Option.map_some, Option.some.injEq, Prod.mk.injEq] at h
          obtain ⟨rfl, rfl, rfl⟩ := h
          refine AOp.quiet (fun F g a w hS hE => ?_) hK
          have h1 := hE.eval q1
          have h2 := hE.eval q2
          unfold min2 at hb
          split at hb
          · rename_i k1 m k2 n e1 e2
            split at hb
            · rename_i hk
              injection hb with hb; subst hb; subst hk
              rw [e1] at h1; rw [e2] at h2
              have h1 := h1.val_eq; have h2 := h2.val_eq
              exact ⟨_, by simp [execOp, resolve, invoke, builtin, Builtin.min_, h1, h2, Builtin.min2], .pv (.val _)⟩
            · cases hb
          · cases hb
      · rename_i y z hxs
        obtain ⟨q1, q2, hq, rfl, rfl⟩ : ∃ q1 q2, args = #[q1, q2] ∧ evalA env q1 = y ∧ evalA env q2 = z := by
          obtain ⟨l⟩ := args
          cases l with
          | nil => simp at hxs
          | cons q l => cases l with
            | nil => simp at hxs
            | cons q' l => cases l with
              | nil => simp at hxs; exact ⟨q, q', rfl, hxs.1, hxs.2⟩
              | cons => simp at hxs
        subst hq
        cases hb : max2 (evalA env q1) (evalA env q2) with
        | none => rw [hb] at h; cases h
        | some r =>
          rw [hb] at h
          simp only [Option.map_some, Option.some.injEq, Prod.mk.injEq] at h
          obtain ⟨rfl, rfl, rfl⟩ := h
          refine AOp.quiet (fun F g a w hS hE => ?_) hK
          have h1 := hE.eval q1
          have h2 := hE.eval q2
          unfold max2 at hb
          split at hb
          · rename_i k1 m k2 n e1 e2
            split at hb
            · rename_i hk
              injection hb with hb; subst hb; subst hk
              rw [e1] at h1; rw [e2] at h2
              have h1 := h1.val_eq; have h2 := h2.val_eq
              exact ⟨_, by simp [execOp, resolve, invoke, builtin, Builtin.max_, h1, h2, Builtin.max2], .pv (.val _)⟩
            · cases hb
          · cases hb
      · cases h
    | value f => simp [exA] at h
    | invoke r m => simp [exA] at h
  all_goals simp [exA] at h
end Go.Proofs.Ytnanpamfdjnomaa.AL
