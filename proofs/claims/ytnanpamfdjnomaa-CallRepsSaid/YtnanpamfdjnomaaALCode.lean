/- AL: code, cut to what is reckoned with. -/
import Derived.Test.YtnanpamfdjnomaaALWeak
namespace Go.Proofs.Ytnanpamfdjnomaa.AL
open Go Go.RowKit

/-- An operation: under which slot's bool, where to, what. -/
structure GOp where
  g : Option (Nat × Bool)
  d : Option Nat
  op : Op

inductive AC where
  | skip
  | reg (os : List GOp)
  | seq (a b : AC)
  | cond (c : Operand) (a b : AC)
  | block (id : Nat) (a : AC)
  | loop (a : AC)
  | exit (id : Nat)
  | ret
  | raw (c : Code)

def gop (ops : Array Oper) (o : Oper) : Option GOp :=
  match o.guard with
  | none => some ⟨none, o.dst, o.op⟩
  | some (j, want) => match (ops[j]?).bind (·.dst) with
    | some t => some ⟨some (t, want), o.dst, o.op⟩
    | none => none
def gops (ops : Array Oper) : List Oper → Option (List GOp)
  | [] => some []
  | o :: os => match gop ops o, gops ops os with
    | some x, some xs => some (x :: xs)
    | _, _ => none
def comp : Code → AC
  | .skip => .skip
  | .region id ops false => match gops ops ops.toList with
    | some l => .reg l
    | none => .raw (.region id ops false)
  | .seq a b => .seq (comp a) (comp b)
  | .cond c a b => .cond c (comp a) (comp b)
  | .block id a => .block id (comp a)
  | .loop a => .loop (comp a)
  | .exit id => .exit id
  | .ret => .ret
  | c => .raw c

section
variable (P : Program) (N k0 : Nat)

def AOpc (op : Op) (env : Env) (σ : Store) (K : AV → Store → Prop) : Prop := ∀ o : Oper, o.op = op → AOp P N o env σ K
def AWPc (x : AC) (env : Env) (σ : Store) (Q : Exit → Env → Store → Prop) : Prop := ∀ c, comp c = x → AWP P N k0 c env σ Q

def aop (op : Op) (env : Env) (σ : Store) (K : AV → Store → Prop) : Prop :=
  match exA P op env σ with
  | some (c, x, σ') => c ∧ K x σ'
  | none => match op with
    | .call { callee := .value (.func f), args, .. } => callable P f = true ∧ ACalls P f (args.toList.map (evalA env)) σ K
    | _ => AOpc P N op env σ K

def dOk (d : Option Nat) : Bool := match d with | some s => Nat.blt s N | none => true

def arops : List GOp → Env → Store → (Env → Store → Prop) → Prop
  | [], env, σ, K => K env σ
  | ⟨none, d, op⟩ :: os, env, σ, K => dOk N d = true ∧ aop P N op env σ (fun x σ' => arops os (env.put d x) σ' K)
  | ⟨some (t, want), d, op⟩ :: os, env, σ, K =>
    match env.get t with
    | .pv (.val (.bool b)) => dOk N d = true ∧ (b = want → aop P N op env σ (fun x σ' => arops os (env.put d x) σ' K)) ∧ (b = !want → arops os (env.put d .any) σ K)
    | _ => False

def arun : AC → Env → Store → (Exit → Env → Store → Prop) → Prop
  | .skip, env, σ, Q => Q .normal env σ
  | .reg os, env, σ, Q => arops P N os env σ (Q .normal)
  | .seq x y, env, σ, Q => arun x env σ (thenA (fun env' σ' => arun y env' σ' Q) Q)
  | .cond c x y, env, σ, Q =>
    match evalA env c with
    | .pv (.val (.bool b)) => (b = true → arun x env σ Q) ∧ (b = false → arun y env σ Q)
    | _ => False
  | .block id c, env, σ, Q => arun c env σ (blkA id Q)
  | .loop c, env, σ, Q => AWPc P N k0 (.loop c) env σ Q
  | .exit id, env, σ, Q => Q (.exit id) env σ
  | .ret, env, σ, Q => Q .ret env σ
  | .raw c, env, σ, Q => AWP P N k0 c env σ Q
end

theorem aop_sound {P : Program} {N : Nat} {o : Oper} {env : Env} {σ : Store} {K : AV → Store → Prop} (h : aop P N o.op env σ K) : AOp P N o env σ K := by
  unfold aop at h
  split at h
  · rename_i c x σ' he
    exact exA_sound he h.1 h.2
  · split at h
    · rename_i f args ts ho
      exact AOp.call ho h.1 h.2
    · exact h o rfl

theorem dOk_spec {N : Nat} {d : Option Nat} (h : dOk N d = true) : ∀ s, d = some s → s < N := by
  rintro s rfl
  simpa [dOk] using h

theorem arops_vops {P : Program} {N : Nat} {ops : Array Oper} {K : Env → Store → Prop} : ∀ {os : List Oper} {l : List GOp} {env : Env} {σ : Store}, gops ops os = some l → arops P N l env σ K → vops P N ops os env σ K
  | [], l, env, σ, hl, h => by
    simp only [gops, Option.some.injEq] at hl
    subst hl
    exact h
  | o :: os, l, env, σ, hl, h => by
    simp only [gops] at hl
    split at hl
    · rename_i x xs hx hxs
      injection hl with hl; subst hl
      unfold gop at hx
      simp only [vops, guardA]
      split at hx
      · rename_i hg
        injection hx with hx; subst hx
        simp only [arops] at h
        rw [hg]
        dsimp only
        exact ⟨dOk_spec h.1, fun _ => (aop_sound h.2).mono fun x σ' hk => arops_vops hxs hk, fun hb => by cases hb⟩
      · rename_i j want hg
        split at hx
        · rename_i t ht
          injection hx with hx; subst hx
          simp only [arops] at h
          rw [hg]
          dsimp only
          rw [ht]
          dsimp only
          split at h
          · rename_i b hb
            obtain ⟨h1, h2, h3⟩ := h
            rw [hb]
            refine ⟨dOk_spec h1, fun hbw => (aop_sound (h2 (by simpa using hbw))).mono fun x σ' hk => arops_vops hxs hk, fun hbw => arops_vops hxs (h3 ?_)⟩
            cases b <;> cases want <;> simp_all
          · exact h.elim
        · cases hx
    · cases hl

theorem arun_sound (P : Program) (N k0 : Nat) : ∀ (c : Code) (env : Env) (σ : Store) (Q : Exit → Env → Store → Prop), arun P N k0 (comp c) env σ Q → AWP P N k0 c env σ Q := by
  intro c
  induction c with
  | skip => exact fun env σ Q h => vwp_sound P N k0 .skip env σ Q h
  | region id ops draw =>
    intro env σ Q h
    cases draw with
    | true => exact h
    | false =>
      simp only [comp] at h
      split at h
      · rename_i l hl
        exact vwp_sound P N k0 (.region id ops false) env σ Q (arops_vops hl h)
      · exact h
  | seq x y ihx ihy =>
    intro env σ Q h
    refine AWP.seq ((ihx _ _ _ h).mono ?_)
    intro e env' σ' h'
    cases e with
    | normal => exact ihy _ _ _ h'
    | _ => exact h'
  | cond c x y ihx ihy =>
    intro env σ Q h F g a w hS hE hk
    simp only [comp, arun] at h
    split at h
    · rename_i b hb
      have hv := hE.eval c
      rw [hb] at hv
      have hv' := hv.val_eq
      refine wp_cond hv' ?_
      cases b with
      | true => exact ihx _ _ _ (h.1 rfl) F g a w hS hE hk
      | false => exact ihy _ _ _ (h.2 rfl) F g a w hS hE hk
    · exact h.elim
  | block id c ih => exact fun env σ Q h => AWP.block (ih _ _ _ h)
  | exit id => exact fun env σ Q h => vwp_sound P N k0 (.exit id) env σ Q h
  | ret => exact fun env σ Q h => vwp_sound P N k0 .ret env σ Q h
  | loop c ih => exact fun env σ Q h => h _ rfl
  | _ => exact fun env σ Q h => h

theorem AWPc.of_arun {P : Program} {N k0 : Nat} {x : AC} {env : Env} {σ : Store} {Q : Exit → Env → Store → Prop} (h : arun P N k0 x env σ Q) : AWPc P N k0 x env σ Q := fun c hc => by
  subst hc; exact arun_sound P N k0 c env σ Q h

/-- A loop: a family of states, a measure. -/
theorem AWPc.loop {P : Program} {N k0 : Nat} {x : AC} {α : Type} (E : α → Env) (S : α → Store) (I : α → Prop) (μ : α → Nat) {env : Env} {σ : Store} {Q : Exit → Env → Store → Prop}
    (h0 : ∃ a, I a ∧ Weak N k0 env σ (E a) (S a))
    (h : ∀ a, I a → arun P N k0 x (E a) (S a) (thenA (fun env' σ' => ∃ b, I b ∧ μ b < μ a ∧ Weak N k0 env' σ' (E b) (S b)) Q)) : AWPc P N k0 (.loop x) env σ Q := by
  intro c hc
  cases c with
  | loop c =>
    simp only [comp] at hc
    injection hc with hc
    subst hc
    exact AWP.loop E S I μ h0 fun a ha => arun_sound P N k0 _ _ _ _ (h a ha)
  | region id ops d =>
    cases d with
    | false =>
      simp only [comp] at hc
      split at hc <;> cases hc
    | true => cases hc
  | _ => cases hc

theorem ACalls.of_arun {P : Program} {f : FuncId} {fn : Func} {x : AC} {N : Nat} {rs : List ResultVar} {args : List AV} {σ : Store} {R : AV → Store → Prop} (hf : P.funcs[f]? = some fn) (hb : fn.body.map comp = some x) (hN : fn.ntmps = N) (hrs : fn.results.toList = rs)
    (hn : args.length ≤ N)
    (h : σ.Wf → arun P N σ.next x (argEnv 0 args) σ (fun e env' σ' => (e = .normal ∨ e = .ret) ∧ ∃ y y' σ'', resA P env' σ' rs = some y ∧ WeakV σ.next y σ' y' σ'' ∧ R y' σ'')) : ACalls P f args σ R := by
  subst hN; subst hrs
  intro F g w vals hS hs hv
  cases hc : fn.body with
  | none => rw [hc] at hb; cases hb
  | some c =>
    rw [hc] at hb
    simp only [Option.map_some, Option.some.injEq] at hb
    subst hb
    refine calls_of_wp hf hc ?_
    have hE : RelE fn.ntmps g σ.next (argEnv 0 args) { tmps := vals ++ Array.replicate (fn.ntmps - vals.size) undef, defers := [] } := by
      refine ⟨rfl, by simp; omega, fun t => ?_⟩
      rw [argEnv_get]
      simp only [Nat.zero_le, if_true, Nat.sub_zero]
      cases ht : args[t]? with
      | none => exact .any _
      | some x =>
        have hlt : t < vals.size := by rw [hs]; exact getElem?_lt ht
        have := hv t x ht
        simp only [Option.getD_some]
        have e : (vals ++ Array.replicate (fn.ntmps - vals.size) undef).getD t undef = vals.getD t undef := by
          simp only [Array.getD_eq_getD_getElem?]
          rw [Array.getElem?_append_left hlt]
        rw [e]; exact this
    refine wp_mono (arun_sound _ _ _ _ _ _ _ (h hS.wf) F g _ w hS hE (Nat.le_refl _)) ?_
    rintro e a' w' ⟨env', σ', g', ⟨he, x, x', σ'', hx, hw, hR⟩, h2, h3, h4, h5⟩
    obtain ⟨v, h6, h7⟩ := resA_sound h4 h5 hx
    obtain ⟨hk, g'', i1, i2, i3⟩ := hw F g' w' v h4 h7 h2
    have hp : bodyPost P fn (fun e w' => ∃ v x σ' g', e = .returned v ∧ Ghost.le σ.next g g' ∧ σ.next ≤ σ'.next ∧ RelS F g' σ' w' ∧ VR g' σ'.next x v ∧ R x σ') .ret a' w' :=
      ⟨h5.defers, v, h6, v, x', σ'', g'', rfl, h3.trans i1, hk, i2, i3, hR⟩
    rcases he with rfl | rfl
    · exact hp
    · exact hp

/-! ### What a step's 'simp' must leave alone -/
section
variable (P : Program) (N k0 : Nat)
@[congr] theorem arun_congr {x : AC} {env env' : Env} {σ : Store} {Q : Exit → Env → Store → Prop} (h : env = env') : arun P N k0 x env σ Q = arun P N k0 x env' σ Q := by rw [h]
@[congr] theorem arops_congr {x : List GOp} {env env' : Env} {σ : Store} {Q : Env → Store → Prop} (h : env = env') : arops P N x env σ Q = arops P N x env' σ Q := by rw [h]
@[congr] theorem aop_congr {x : Op} {env env' : Env} {σ : Store} {Q : AV → Store → Prop} (h : env = env') : aop P N x env σ Q = aop P N x env' σ Q := by rw [h]
@[congr] theorem AOpc_congr {x : Op} {env env' : Env} {σ : Store} {Q : AV → Store → Prop} (h : env = env') : AOpc P N x env σ Q = AOpc P N x env' σ Q := by rw [h]
@[congr] theorem AWPc_congr {x : AC} {env env' : Env} {σ : Store} {Q : Exit → Env → Store → Prop} (h : env = env') : AWPc P N k0 x env σ Q = AWPc P N k0 x env' σ Q := by rw [h]
@[congr] theorem AWP_congr {x : Code} {env env' : Env} {σ : Store} {Q : Exit → Env → Store → Prop} (h : env = env') : AWP P N k0 x env σ Q = AWP P N k0 x env' σ Q := by rw [h]
@[congr] theorem ACalls_congr {f : FuncId} {args args' : List AV} {σ : Store} {Q : AV → Store → Prop} (h : args = args') : ACalls P f args σ Q = ACalls P f args' σ Q := by rw [h]
@[congr] theorem thenA_congr {f : Env → Store → Prop} {Q : Exit → Env → Store → Prop} {e : Exit} {env : Env} {σ : Store} : thenA f Q e env σ = thenA f Q e env σ := rfl
@[congr] theorem blkA_congr {id : Nat} {Q : Exit → Env → Store → Prop} {e : Exit} {env : Env} {σ : Store} : blkA id Q e env σ = blkA id Q e env σ := rfl
end
theorem thenA_normal (f : Env → Store → Prop) (Q : Exit → Env → Store → Prop) (env : Env) (σ : Store) : thenA f Q .normal env σ = f env σ := rfl
theorem thenA_exit (f : Env → Store → Prop) (Q : Exit → Env → Store → Prop) (id : Nat) (env : Env) (σ : Store) : thenA f Q (.exit id) env σ = Q (.exit id) env σ := rfl
theorem thenA_ret (f : Env → Store → Prop) (Q : Exit → Env → Store → Prop) (env : Env) (σ : Store) : thenA f Q .ret env σ = Q .ret env σ := rfl
theorem blkA_normal (id : Nat) (Q : Exit → Env → Store → Prop) (env : Env) (σ : Store) : blkA id Q .normal env σ = Q .normal env σ := rfl
theorem blkA_ret (id : Nat) (Q : Exit → Env → Store → Prop) (env : Env) (σ : Store) : blkA id Q .ret env σ = Q .ret env σ := rfl
theorem blkA_exit (id id' : Nat) (Q : Exit → Env → Store → Prop) (env : Env) (σ : Store) : blkA id Q (.exit id') env σ = if id' = id then Q .normal env σ else Q (.exit id') env σ := rfl
end Go.Proofs.Ytnanpamfdjnomaa.AL
