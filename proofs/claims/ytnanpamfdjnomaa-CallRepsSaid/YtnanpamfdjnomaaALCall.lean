/- AL: calls of Go functions; a function's beginning and end. -/
import Derived.Test.YtnanpamfdjnomaaALTab
namespace Go.Proofs.Ytnanpamfdjnomaa.AL
open Go Go.RowKit

/-- A call of a Go function: what it leaves. -/
def ACalls (P : Program) (f : FuncId) (args : List AV) (σ : Store) (R : AV → Store → Prop) : Prop :=
  ∀ F g w (vals : Array Value), RelS F g σ w → vals.size = args.length → (∀ (j : Nat) (y : AV), args[j]? = some y → VR g σ.next y (vals.getD j undef)) →
    Calls P f vals w fun e w' => ∃ v x σ' g', e = .returned v ∧ Ghost.le σ.next g g' ∧ σ.next ≤ σ'.next ∧ RelS F g' σ' w' ∧ VR g' σ'.next x v ∧ R x σ'

theorem ACalls.mono {P : Program} {f : FuncId} {args : List AV} {σ : Store} {R R' : AV → Store → Prop} (h : ACalls P f args σ R) (hr : ∀ x σ', R x σ' → R' x σ') : ACalls P f args σ R' :=
  fun F g w vals hS hs hv => (h F g w vals hS hs hv).mono fun _ _ ⟨v, x, σ', g', h1, h2, h3, h4, h5, h6⟩ => ⟨v, x, σ', g', h1, h2, h3, h4, h5, hr _ _ h6⟩

def callable (P : Program) (f : FuncId) : Bool :=
  match P.funcs[f]? with
  | some fn => fn.name != "runtime.NumGoroutine" && fn.body.isSome
  | none => false

theorem run_callFunc {P : Program} {f : FuncId} (h : callable P f = true) (args : Array Value) (w : World) : (callFunc f args).run P w = .ok (.enter f args) w := by
  unfold callable at h
  split at h
  · rename_i fn hf
    simp only [Bool.and_eq_true, bne_iff_ne, ne_eq] at h
    have h2 : fn.body.isNone = false := by cases hb : fn.body <;> simp_all
    have h3 : fn.body ≠ none := by intro h3; rw [h3] at h2; cases h2
    simp [callFunc, hf, h.1, h3]
  · cases h

theorem AOp.call {P : Program} {N : Nat} {o : Oper} {env : Env} {σ : Store} {K : AV → Store → Prop} {f : FuncId} {args : Array Operand} {ts : Array TypeId} (ho : o.op = .call { callee := .value (.func f), args, argTypes := ts })
    (hf : callable P f = true) (h : ACalls P f (args.toList.map (evalA env)) σ K) : AOp P N o env σ K := by
  obtain ⟨dst, op, type, pos, after, guard⟩ := o
  dsimp only at ho
  subst ho
  intro F g a w hS hE Q
  have hr : (execOp a.eval ⟨dst, .call { callee := .value (.func f), args, argTypes := ts }, type, pos, after, guard⟩).run P w = .ok (.enter f (args.map a.eval)) w := by
    simp [execOp, resolve, invoke, Act.eval, Deferred.ofValue, run_callFunc hf]
  simp only [Oper.wp, hr, Oper.upon]
  refine (h F g w (args.map a.eval) hS (by simp) fun j y hj => ?_).mono ?_
  · rw [List.getElem?_map] at hj
    simp only [Array.getElem?_toList] at hj
    cases hx : args[j]? with
    | none => rw [hx] at hj; cases hj
    | some x =>
      rw [hx] at hj
      simp only [Option.map_some, Option.some.injEq] at hj
      subst hj
      have : (args.map a.eval).getD j undef = a.eval x := by simp [Array.getD_eq_getD_getElem?, hx]
      rw [this]; exact hE.eval x
  · rintro e w' ⟨v, x, σ', g', rfl, h2, h3, h4, h5, h6⟩
    exact ⟨v, x, σ', g', rfl, h2, h3, h4, h5, h6⟩

/-- One operation. -/
def vop (P : Program) (N : Nat) (o : Oper) (env : Env) (σ : Store) (K : AV → Store → Prop) : Prop :=
  match exA P o.op env σ with
  | some (c, x, σ') => c ∧ K x σ'
  | none => match o.op with
    | .call { callee := .value (.func f), args, .. } => callable P f = true ∧ ACalls P f (args.toList.map (evalA env)) σ K
    | _ => AOp P N o env σ K

theorem vop_sound {P : Program} {N : Nat} {o : Oper} {env : Env} {σ : Store} {K : AV → Store → Prop} (h : vop P N o env σ K) : AOp P N o env σ K := by
  unfold vop at h
  split at h
  · rename_i c x σ' he
    exact exA_sound he h.1 h.2
  · split at h
    · rename_i f args ts ho
      exact AOp.call ho h.1 h.2
    · exact h

section
variable (P : Program) (N k0 : Nat)

/-- The operations of a region. -/
def rops (ops : Array Oper) : List Oper → Env → Store → (Env → Store → Prop) → Prop
  | [], env, σ, K => K env σ
  | o :: os, env, σ, K =>
    match guardA ops env o with
    | none => False
    | some b => (∀ s, o.dst = some s → s < N) ∧ (b = true → vop P N o env σ fun x σ' => rops ops os (env.put o.dst x) σ' K) ∧ (b = false → rops ops os (env.put o.dst .any) σ K)

/-- Code, reckoned. -/
def run : Code → Env → Store → (Exit → Env → Store → Prop) → Prop
  | .skip, env, σ, Q => Q .normal env σ
  | .region _ ops false, env, σ, Q => rops P N ops ops.toList env σ (Q .normal)
  | .seq x y, env, σ, Q => run x env σ (thenA (fun env' σ' => run y env' σ' Q) Q)
  | .cond c x y, env, σ, Q =>
    match evalA env c with
    | .pv (.val (.bool b)) => (b = true → run x env σ Q) ∧ (b = false → run y env σ Q)
    | _ => False
  | .block id c, env, σ, Q => run c env σ (blkA id Q)
  | .exit id, env, σ, Q => Q (.exit id) env σ
  | .ret, env, σ, Q => Q .ret env σ
  | c, env, σ, Q => AWP P N k0 c env σ Q
end

theorem AOp.mono {P : Program} {N : Nat} {o : Oper} {env : Env} {σ : Store} {K K' : AV → Store → Prop} (h : AOp P N o env σ K) (hk : ∀ x σ', K x σ' → K' x σ') : AOp P N o env σ K' :=
  fun F g a w hS hE Q => Oper.wp_mono (fun _ _ ⟨v, x, σ', g', h1, h2, h3, h4, h5, h6⟩ => ⟨v, x, σ', g', h1, h2, h3, h4, h5, hk _ _ h6⟩) (h F g a w hS hE Q)

theorem rops_vops {P : Program} {N : Nat} {ops : Array Oper} {K : Env → Store → Prop} : ∀ {os : List Oper} {env : Env} {σ : Store}, rops P N ops os env σ K → vops P N ops os env σ K
  | [], _, _, h => h
  | o :: os, env, σ, h => by
    simp only [rops] at h
    simp only [vops]
    split
    · rename_i hg; rw [hg] at h; exact h
    · rename_i b hg
      rw [hg] at h
      obtain ⟨h1, h2, h3⟩ := h
      exact ⟨h1, fun hb => (vop_sound (h2 hb)).mono fun x σ' hx => rops_vops hx, fun hb => rops_vops (h3 hb)⟩

theorem run_sound (P : Program) (N k0 : Nat) : ∀ (c : Code) (env : Env) (σ : Store) (Q : Exit → Env → Store → Prop), run P N k0 c env σ Q → AWP P N k0 c env σ Q := by
  intro c
  induction c with
  | skip => exact fun env σ Q h => vwp_sound P N k0 .skip env σ Q h
  | region id ops draw =>
    intro env σ Q h
    cases draw with
    | true => exact h
    | false => exact vwp_sound P N k0 (.region id ops false) env σ Q (rops_vops h)
  | seq x y ihx ihy =>
    intro env σ Q h
    refine AWP.seq ((ihx _ _ _ h).mono ?_)
    intro e env' σ' h'
    cases e with
    | normal => exact ihy _ _ _ h'
    | _ => exact h'
  | cond c x y ihx ihy =>
    intro env σ Q h F g a w hS hE hk
    simp only [run] at h
    split at h
    · rename_i b hb
      have hv := hE.eval c
      rw [hb] at hv
      have hv' := hv.val_eq
      refine wp_cond hv' ?_
      cases b with
      | true => exact ihx _ _ _ (h.1 rfl) F g a w hS hE hk
      | false => exact ihy _ _ _ (h.2 rfl) F g a w hS hE hk
    · exact h.elim
  | block id c ih => exact fun env σ Q h => AWP.block (ih _ _ _ h)
  | exit id => exact fun env σ Q h => vwp_sound P N k0 (.exit id) env σ Q h
  | ret => exact fun env σ Q h => vwp_sound P N k0 .ret env σ Q h
  | _ => exact fun env σ Q h => h

/-! ### Results -/
def resA1 (P : Program) (env : Env) (σ : Store) : ResultVar → Option AV
  | .tmp t => some (env.get t)
  | .cell a t => match tSA P t with
    | some s => readA σ s (env.get a)
    | none => none
def resAs (P : Program) (env : Env) (σ : Store) : List ResultVar → Option (List AV)
  | [] => some []
  | r :: rs => match resA1 P env σ r, resAs P env σ rs with
    | some x, some xs => some (x :: xs)
    | _, _ => none
def resA (P : Program) (env : Env) (σ : Store) (rs : List ResultVar) : Option AV :=
  match rs with
  | [r] => resA1 P env σ r
  | rs => (resAs P env σ rs).map .tup

def resSem (tmps : Array Value) : ResultVar → Sem Value
  | .tmp t => pure (tmps.getD t undef)
  | .cell a t => do loadVar t (← asAddr (tmps.getD a undef))

theorem resA1_sound {P : Program} {N : Nat} {F : Base} {g : Ghost} {σ : Store} {w : World} {env : Env} {a : Act} (hS : RelS F g σ w) (hE : RelE N g σ.next env a) {r : ResultVar} {x : AV} (h : resA1 P env σ r = some x) :
    ∃ v, (resSem a.tmps r).run P w = .ok v w ∧ VR g σ.next x v := by
  cases r with
  | tmp t =>
    simp only [resA1, Option.some.injEq] at h
    subst h
    exact ⟨_, rfl, hE.slot t⟩
  | cell b t =>
    simp only [resA1] at h
    split at h
    · rename_i s ht
      obtain ⟨v, h1, h2⟩ := readA_sound (n := s.1) (b := s.2) hS ht h (hE.slot b)
      refine ⟨v, ?_, h2⟩
      have hp : ∃ p, a.tmps.getD b undef = .pointer (some p) := by
        have hx := hE.slot b
        unfold readA at h
        split at h
        · rename_i he; rw [he] at hx; generalize a.tmps.getD b undef = u at hx; cases hx; exact ⟨_, rfl⟩
        · rename_i he; rw [he] at hx; generalize a.tmps.getD b undef = u at hx; cases hx; exact ⟨_, rfl⟩
        · cases h
      obtain ⟨p, hp⟩ := hp
      rw [hp] at h1
      simp only [resSem, hp]
      simpa [Instr.loadAt, Instr.sureAddr, asAddr] using h1
    · cases h

theorem resAs_sound {P : Program} {N : Nat} {F : Base} {g : Ghost} {σ : Store} {w : World} {env : Env} {a : Act} (hS : RelS F g σ w) (hE : RelE N g σ.next env a) : ∀ {rs : List ResultVar} {xs : List AV}, resAs P env σ rs = some xs →
    ∃ vs : List Value, (rs.mapM (resSem a.tmps)).run P w = .ok vs w ∧ vs.length = xs.length ∧ ∀ (i : Nat) (x : AV), xs[i]? = some x → VR g σ.next x (vs.getD i undef)
  | [], xs, h => by
    simp only [resAs, Option.some.injEq] at h
    subst h
    exact ⟨[], by simp, rfl, by simp⟩
  | r :: rs, xs, h => by
    simp only [resAs] at h
    split at h
    · rename_i x xs' h1 h2
      injection h with h; subst h
      obtain ⟨v, h3, h4⟩ := resA1_sound hS hE h1
      obtain ⟨vs, h5, h6, h7⟩ := resAs_sound hS hE h2
      refine ⟨v :: vs, by simp [List.mapM_cons, h3, h5], by simp [h6], fun i y hy => ?_⟩
      cases i with
      | zero => simp at hy; subst hy; simpa using h4
      | succ i => simp at hy; simpa using h7 i y hy
    · cases h

theorem resA_sound {P : Program} {N : Nat} {F : Base} {g : Ghost} {σ : Store} {w : World} {env : Env} {a : Act} (hS : RelS F g σ w) (hE : RelE N g σ.next env a) {fn : Func} {x : AV} (h : resA P env σ fn.results.toList = some x) :
    ∃ v, (results fn a.tmps).run P w = .ok v w ∧ VR g σ.next x v := by
  have hm : ∀ vs : List Value, (fn.results.toList.mapM (resSem a.tmps)).run P w = .ok vs w → (results fn a.tmps).run P w = .ok (if h : vs.length = 1 then vs[0] else .tuple vs.toArray) w := by
    intro vs hvs
    have hres : results fn a.tmps = (do let vs ← fn.results.mapM (resSem a.tmps); pure (if h : vs.size = 1 then vs[0] else .tuple vs)) := by
      unfold results
      congr 1
    rw [hres, Array.mapM_eq_mapM_toList]
    simp [hvs]
  unfold resA at h
  split at h
  · rename_i r hr
    obtain ⟨v, h1, h2⟩ := resA1_sound hS hE h
    refine ⟨v, ?_, h2⟩
    rw [hm [v] (by rw [hr]; simp [List.mapM_cons, h1])]
    simp
  · rename_i rs hne
    cases hb : resAs P env σ fn.results.toList with
    | none => rw [hb] at h; cases h
    | some xs =>
      rw [hb] at h
      simp only [Option.map_some, Option.some.injEq] at h
      subst h
      obtain ⟨vs, h1, h2, h3⟩ := resAs_sound hS hE hb
      have hlen : vs.length ≠ 1 := by
        rw [h2]
        intro h1l
        match hr : fn.results.toList, hb with
        | [], hb => simp only [resAs, Option.some.injEq] at hb; subst hb; simp at h1l
        | [r], _ => exact hne r hr
        | r1 :: r2 :: rs, hb =>
          simp only [resAs] at hb
          split at hb
          · rename_i h5
            injection hb with hb; subst hb
            split at h5
            · injection h5 with h5; subst h5; simp at h1l
            · cases h5
          · cases hb
      refine ⟨_, hm vs h1, ?_⟩
      rw [dif_neg hlen]
      exact .tup _ (by simp [h2]) fun i x hx => by have := h3 i x hx; simpa [Array.getD_eq_getD_getElem?, List.getD_eq_getElem?_getD] using this

/-! ### A function -/
def argEnv : Nat → List AV → Env
  | _, [] => []
  | n, x :: xs => (n, x) :: argEnv (n + 1) xs

theorem argEnv_get : ∀ (xs : List AV) (n t : Nat), (argEnv n xs).get t = if n ≤ t then (xs[t - n]?).getD .any else .any
  | [], n, t => by simp [argEnv, Env.get]
  | x :: xs, n, t => by
    simp only [argEnv, Env.get]
    by_cases h : n = t
    · subst h; simp
    · rw [if_neg h, argEnv_get xs (n + 1) t]
      by_cases h1 : n ≤ t
      · rw [if_pos h1, if_pos (by omega)]
        have : t - n = (t - (n + 1)) + 1 := by omega
        rw [this]; simp
      · rw [if_neg h1, if_neg (by omega)]

/-- What is known of a store in which a call begins. -/
structure Store.Wf (σ : Store) : Prop where
  obj : ∀ n cs, σ.objs n = some cs → n < σ.next ∧ ∀ y ∈ cs, AV.Lt σ.next y
  tok : ∀ t x, σ.toks t = some x → t < σ.next

theorem RelS.wf {F : Base} {g : Ghost} {σ : Store} {w : World} (h : RelS F g σ w) : σ.Wf :=
  ⟨fun n cs hn => by
    obtain ⟨h1, _, _, c, e, _, _, h6⟩ := h.obj n cs hn
    exact ⟨h1, fun y hy => by obtain ⟨j, hj⟩ := List.getElem?_of_mem hy; exact (h6 j y hj).lt⟩, fun t ⟨e, es, m⟩ ht => (h.tok t e es m ht).1⟩

/-- A result and a store, told by less. -/
def WeakV (k0 : Nat) (x : AV) (σ : Store) (x' : AV) (σ' : Store) : Prop :=
  ∀ F g w v, RelS F g σ w → VR g σ.next x v → k0 ≤ σ.next → k0 ≤ σ'.next ∧ ∃ g', Ghost.le k0 g g' ∧ RelS F g' σ' w ∧ VR g' σ'.next x' v

theorem WeakV.refl (k0 : Nat) (x : AV) (σ : Store) : WeakV k0 x σ x σ := fun _ g _ _ hS hv hk => ⟨hk, g, .refl _ _, hS, hv⟩
theorem WeakV.trans {k0 : Nat} {x y z : AV} {a b c : Store} (h : WeakV k0 x a y b) (h' : WeakV k0 y b z c) : WeakV k0 x a z c := fun F g w v hS hv hk => by
  obtain ⟨hk1, g1, i1, i2, i3⟩ := h F g w v hS hv hk
  obtain ⟨hk2, g2, j1, j2, j3⟩ := h' F g1 w v i2 i3 hk1
  exact ⟨hk2, g2, i1.trans j1, j2, j3⟩

theorem ACalls.of_run {P : Program} {f : FuncId} {fn : Func} {c : Code} {args : List AV} {σ : Store} {R : AV → Store → Prop} (hf : P.funcs[f]? = some fn) (hb : fn.body = some c) (hn : args.length ≤ fn.ntmps)
    (h : σ.Wf → run P fn.ntmps σ.next c (argEnv 0 args) σ (fun e env' σ' => (e = .normal ∨ e = .ret) ∧ ∃ x x' σ'', resA P env' σ' fn.results.toList = some x ∧ WeakV σ.next x σ' x' σ'' ∧ R x' σ'')) : ACalls P f args σ R := by
  intro F g w vals hS hs hv
  refine calls_of_wp hf hb ?_
  have hE : RelE fn.ntmps g σ.next (argEnv 0 args) { tmps := vals ++ Array.replicate (fn.ntmps - vals.size) undef, defers := [] } := by
    refine ⟨rfl, by simp; omega, fun t => ?_⟩
    rw [argEnv_get]
    simp only [Nat.zero_le, if_true, Nat.sub_zero]
    cases ht : args[t]? with
    | none => exact .any _
    | some x =>
      have hlt : t < vals.size := by rw [hs]; exact getElem?_lt ht
      have := hv t x ht
      simp only [Option.getD_some]
      have e : (vals ++ Array.replicate (fn.ntmps - vals.size) undef).getD t undef = vals.getD t undef := by
        simp only [Array.getD_eq_getD_getElem?]
        rw [Array.getElem?_append_left hlt]
      rw [e]; exact this
  refine wp_mono (run_sound _ _ _ _ _ _ _ (h hS.wf) F g _ w hS hE (Nat.le_refl _)) ?_
  rintro e a' w' ⟨env', σ', g', ⟨he, x, x', σ'', hx, hw, hR⟩, h2, h3, h4, h5⟩
  obtain ⟨v, h6, h7⟩ := resA_sound h4 h5 hx
  obtain ⟨hk, g'', i1, i2, i3⟩ := hw F g' w' v h4 h7 h2
  have hp : bodyPost P fn (fun e w' => ∃ v x σ' g', e = .returned v ∧ Ghost.le σ.next g g' ∧ σ.next ≤ σ'.next ∧ RelS F g' σ' w' ∧ VR g' σ'.next x v ∧ R x σ') .ret a' w' :=
    ⟨h5.defers, v, h6, v, x', σ'', g'', rfl, h3.trans i1, hk, i2, i3, hR⟩
  rcases he with rfl | rfl
  · exact hp
  · exact hp
end Go.Proofs.Ytnanpamfdjnomaa.AL
