/- AL: abstract states: operations, code. -/
import Derived.Test.YtnanpamfdjnomaaALCore
import Derived.Deep.LoopGhost
namespace Go.Proofs.Ytnanpamfdjnomaa.AL
open Go Go.RowKit

section
variable (P : Program) (N k0 : Nat)

/-- An operation from the state (env, σ): it leaves a value that is told by x, and σ'. -/
def AOp (o : Oper) (env : Env) (σ : Store) (K : AV → Store → Prop) : Prop :=
  ∀ F g a w, RelS F g σ w → RelE N g σ.next env a → ∀ Q, o.wp P a w (fun a' w' => ∃ v x σ' g', a' = a.put o.dst v ∧ Ghost.le σ.next g g' ∧ σ.next ≤ σ'.next ∧
    RelS F g' σ' w' ∧ VR g' σ'.next x v ∧ K x σ') Q

/-- Code from the state (env, σ); names below k0 stay. -/
def AWP (c : Code) (env : Env) (σ : Store) (Q : Exit → Env → Store → Prop) : Prop :=
  ∀ F g a w, RelS F g σ w → RelE N g σ.next env a → k0 ≤ σ.next →
    c.wp P (fun e a' w' => ∃ env' σ' g', Q e env' σ' ∧ k0 ≤ σ'.next ∧ Ghost.le k0 g g' ∧ RelS F g' σ' w' ∧ RelE N g' σ'.next env' a') a w
end

theorem RelE.put {N : Nat} {g g' : Ghost} {k k' : Nat} {env : Env} {a : Act} (h : RelE N g k env a) (hg : Ghost.le k g g') (hk : k ≤ k') (d : Option Nat)
    (hd : ∀ s, d = some s → s < N) {x : AV} {v : Value} (hx : VR g' k' x v) : RelE N g' k' (env.put d x) (a.put d v) := by
  cases d with
  | none => exact ⟨h.defers, h.size, fun t => (h.slot t).mono hg hk⟩
  | some s =>
    refine ⟨h.defers, by simp [Act.put, h.size], fun t => ?_⟩
    simp only [Env.put, Env.get, Act.put]
    by_cases hst : s = t
    · subst hst
      have : s < a.tmps.size := by rw [h.size]; exact hd _ rfl
      simp [Array.getD, this, hx]
    · simp only [if_neg hst]
      have : (a.tmps.setIfInBounds s v).getD t undef = a.tmps.getD t undef := by
        simp [Array.getD_eq_getD_getElem?, Array.getElem?_setIfInBounds_ne hst]
      rw [this]
      exact (h.slot t).mono hg hk

theorem RelE.mono {N : Nat} {g g' : Ghost} {k k' : Nat} {env : Env} {a : Act} (h : RelE N g k env a) (hg : Ghost.le k g g') (hk : k ≤ k') : RelE N g' k' env a :=
  ⟨h.defers, h.size, fun t => (h.slot t).mono hg hk⟩

def evalA (env : Env) : Operand → AV
  | .tmp t => env.get t
  | .const v => .pv (.val v)
  | .global g => .pv (.val (.pointer (some ⟨g, 0, none⟩)))
  | .func f => .pv (.val (.func (.func f) #[] #[]))

theorem RelE.eval {N : Nat} {g : Ghost} {k : Nat} {env : Env} {a : Act} (h : RelE N g k env a) (x : Operand) : VR g k (evalA env x) (a.eval x) := by
  cases x with
  | tmp t => exact h.slot t
  | const v => exact .pv (.val v)
  | global n => exact .pv (.val _)
  | func f => exact .pv (.val _)

/-- Is the guarded operation carried out? -/
def guardA (ops : Array Oper) (env : Env) (o : Oper) : Option Bool :=
  match o.guard with
  | none => some true
  | some (j, want) =>
    match (ops[j]?).bind (·.dst) with
    | some t => match env.get t with
      | .pv (.val (.bool b)) => some (b == want)
      | _ => none
    | none => none

theorem guardA_sound {N : Nat} {g : Ghost} {k : Nat} {env : Env} {a : Act} (h : RelE N g k env a) {ops : Array Oper} {o : Oper} {b : Bool} (hb : guardA ops env o = some b) :
    Region.wanted o (yielded ops a.tmps) = b := by
  unfold guardA at hb
  unfold Region.wanted
  cases hg : o.guard with
  | none => simp [hg] at hb; simp [hb]
  | some jw =>
    obtain ⟨j, want⟩ := jw
    simp only [hg] at hb ⊢
    cases hd : (ops[j]?).bind (·.dst) with
    | none => simp [hd] at hb
    | some t =>
      simp only [hd] at hb
      have hs := h.slot t
      cases he : env.get t with
      | pv p =>
        rw [he] at hb hs
        cases p with
        | val v =>
          cases v <;> simp at hb
          rename_i c
          have hv : a.tmps.getD t undef = .bool c := by
            cases hs with | pv hp => generalize a.tmps.getD t undef = u at hp; cases hp; rfl
          unfold yielded
          simp only [hd]
          have : a.tmps[t]? = some (.bool c) := by
            rw [Array.getD_eq_getD_getElem?] at hv
            cases hq : a.tmps[t]? with
            | none => rw [hq] at hv; simp [undef] at hv
            | some u => rw [hq] at hv; simpa using hv
          simp [this, ← hb]
        | _ => simp at hb
      | _ => rw [he] at hb; simp at hb

section
variable (P : Program) (N k0 : Nat)

/-- The operations of a region, in the order of the text. -/
def vops (ops : Array Oper) : List Oper → Env → Store → (Env → Store → Prop) → Prop
  | [], env, σ, K => K env σ
  | o :: os, env, σ, K =>
    match guardA ops env o with
    | none => False
    | some b => (∀ s, o.dst = some s → s < N) ∧ (b = true → AOp P N o env σ fun x σ' => vops ops os (env.put o.dst x) σ' K) ∧ (b = false → vops ops os (env.put o.dst .any) σ K)
end


theorem LetsOut.imp {Q Q' : Exit → Act → World → Prop} (hq : ∀ e a w, Q e a w → Q' e a w) (h : LetsOut Q) : LetsOut Q' := by
  obtain ⟨a, w, h⟩ := h
  exact ⟨a, w, hq _ _ _ h⟩

theorem Oper.wp_imp {P : Program} {o : Oper} {a : Act} {w : World} {K K' : Act → World → Prop} {Q Q' : Exit → Act → World → Prop} (h : ∀ a w, K a w → K' a w) (hq : ∀ e a w, Q e a w → Q' e a w)
    (hh : o.wp P a w K Q) : o.wp P a w K' Q' := by
  unfold Oper.wp at *
  generalize (execOp a.eval o).run P w = r at *
  cases r with
  | ok n w' =>
    cases n <;> simp only [Oper.upon] at hh ⊢ <;>
      first
        | exact h _ _ hh
        | exact Calls.mono hh (fun e w'' he => by cases e <;> first | exact h _ _ he | exact hq _ _ _ he | exact LetsOut.imp hq he)
        | exact Rows.mono hh (fun _ _ he => h _ _ he)
  | halt x w' => cases x <;> simp only [Oper.upon] at hh ⊢ <;> first | exact hq _ _ _ hh | exact hh

theorem wpOps_imp {P : Program} {ops : Array Oper} {Q Q' : Exit → Act → World → Prop} (hq : ∀ e a w, Q e a w → Q' e a w) : ∀ (l : List Nat) (a : Act) (w : World), wpOps P ops Q l a w → wpOps P ops Q' l a w
  | [], a, w, h => hq _ _ _ h
  | i :: rest, a, w, h => by
    simp only [wpOps] at h ⊢
    cases ho : ops[i]? with
    | none => simp only [ho] at h ⊢; exact wpOps_imp hq rest a w h
    | some o =>
      simp only [ho] at h ⊢
      split
      · rename_i hw
        rw [if_pos hw] at h
        rcases h with h | ⟨h1, h2⟩
        · exact .inl (Oper.wp_imp (fun a w => wpOps_imp hq rest a w) hq h)
        · exact .inr ⟨h1, LetsOut.imp hq h2⟩
      · rename_i hw
        rw [if_neg hw] at h
        exact wpOps_imp hq rest _ w h

theorem range_drop (ops : Array Oper) : ∀ (n : Nat) (i : Nat), i + n = ops.size → List.range' i n = (List.range ops.size).drop i := by
  intro n i h
  rw [List.range_eq_range', List.drop_range']
  congr 1 <;> omega

theorem vops_sound (P : Program) (N k0 : Nat) (ops : Array Oper) (Q : Exit → Env → Store → Prop) : ∀ (os : List Oper) (i : Nat), ops.toList.drop i = os → ∀ env σ, vops P N ops os env σ (Q .normal) →
    ∀ F g a w, RelS F g σ w → RelE N g σ.next env a → k0 ≤ σ.next →
    wpOps P ops (fun e a' w' => ∃ env' σ' g', Q e env' σ' ∧ k0 ≤ σ'.next ∧ Ghost.le k0 g g' ∧ RelS F g' σ' w' ∧ RelE N g' σ'.next env' a') (List.range' i os.length) a w := by
  intro os
  induction os with
  | nil =>
    intro i _ env σ h F g a w hS hE hk
    exact ⟨env, σ, g, h, hk, .refl _ _, hS, hE⟩
  | cons o os ih =>
    intro i hi env σ h F g a w hS hE hk
    have hlt : i < ops.toList.length := by
      rcases Nat.lt_or_ge i ops.toList.length with h' | h'
      · exact h'
      · rw [List.drop_eq_nil_of_le h'] at hi; cases hi
    have hoi : ops[i]? = some o := by
      have := List.drop_eq_getElem_cons hlt
      rw [hi] at this
      injection this with h1 h2
      rw [← Array.getElem?_toList, List.getElem?_eq_getElem hlt, ← h1]
    have hrest : ops.toList.drop (i + 1) = os := by
      have := List.drop_eq_getElem_cons hlt
      rw [hi] at this
      injection this with h1 h2
      exact h2.symm
    simp only [List.length_cons, List.range'_succ]
    simp only [wpOps, hoi]
    simp only [vops] at h
    split at h
    · exact h.elim
    · rename_i b hb
      obtain ⟨hd, ht, hf⟩ := h
      have hw := guardA_sound hE hb
      cases b with
      | true =>
        rw [if_pos hw]
        refine .inl ((Oper.wp_mono ?_) (ht rfl F g a w hS hE _))
        rintro a' w' ⟨v, x, σ', g', rfl, hg, hn, hS', hx, hK⟩
        have hE' := hE.put hg hn o.dst hd hx
        have := ih (i + 1) hrest _ _ hK F g' _ w' hS' hE' (Nat.le_trans hk hn)
        exact wpOps_imp (fun e a' w' ⟨env', σ'', g'', h1, h2, h3, h4, h5⟩ => ⟨env', σ'', g'', h1, h2, (hg.mono hk).trans h3, h4, h5⟩) _ _ _ this
      | false =>
        rw [if_neg (by rw [hw]; simp)]
        have hE' := hE.put (.refl _ _) (Nat.le_refl _) o.dst hd (x := .any) (v := undef) (.any _)
        exact ih (i + 1) hrest _ _ (hf rfl) F g _ w hS hE' hk

section
variable (P : Program) (N k0 : Nat)

/-- What comes behind x in 'x; y'. -/
def thenA (f : Env → Store → Prop) (Q : Exit → Env → Store → Prop) : Exit → Env → Store → Prop
  | .normal, env, σ => f env σ
  | e, env, σ => Q e env σ
/-- What comes behind a block. -/
def blkA (id : Nat) (Q : Exit → Env → Store → Prop) : Exit → Env → Store → Prop
  | .exit id', env, σ => if id' = id then Q .normal env σ else Q (.exit id') env σ
  | e, env, σ => Q e env σ

/-- Code, reckoned. Loops and regions that draw their order stay as they are. -/
def vwp : Code → Env → Store → (Exit → Env → Store → Prop) → Prop
  | .skip, env, σ, Q => Q .normal env σ
  | .region _ ops false, env, σ, Q => vops P N ops ops.toList env σ (Q .normal)
  | .seq x y, env, σ, Q => vwp x env σ (thenA (fun env' σ' => vwp y env' σ' Q) Q)
  | .cond c x y, env, σ, Q =>
    match evalA env c with
    | .pv (.val (.bool b)) => (b = true → vwp x env σ Q) ∧ (b = false → vwp y env σ Q)
    | _ => False
  | .block id c, env, σ, Q => vwp c env σ (blkA id Q)
  | .exit id, env, σ, Q => Q (.exit id) env σ
  | .ret, env, σ, Q => Q .ret env σ
  | c, env, σ, Q => AWP P N k0 c env σ Q
end

theorem AWP.mono {P : Program} {N k0 : Nat} {c : Code} {env : Env} {σ : Store} {Q Q' : Exit → Env → Store → Prop} (h : AWP P N k0 c env σ Q) (hq : ∀ e env σ, Q e env σ → Q' e env σ) : AWP P N k0 c env σ Q' :=
  fun F g a w hS hE hk => wp_mono (h F g a w hS hE hk) fun _ _ _ ⟨env', σ', g', h1, h2⟩ => ⟨env', σ', g', hq _ _ _ h1, h2⟩

theorem AWP.seq {P : Program} {N k0 : Nat} {x y : Code} {env : Env} {σ : Store} {Q : Exit → Env → Store → Prop}
    (h : AWP P N k0 x env σ (thenA (fun env' σ' => AWP P N k0 y env' σ' Q) Q)) : AWP P N k0 (.seq x y) env σ Q := by
  intro F g a w hS hE hk
  refine wp_seq (wp_mono (h F g a w hS hE hk) ?_)
  rintro e a' w' ⟨env', σ', g', h1, h2, h3, h4, h5⟩
  cases e with
  | normal =>
    refine wp_mono (h1 F g' a' w' h4 h5 h2) ?_
    rintro e a'' w'' ⟨env'', σ'', g'', i1, i2, i3, i4, i5⟩
    exact ⟨env'', σ'', g'', i1, i2, h3.trans i3, i4, i5⟩
  | _ => exact ⟨env', σ', g', h1, h2, h3, h4, h5⟩

theorem AWP.block {P : Program} {N k0 : Nat} {id : Nat} {c : Code} {env : Env} {σ : Store} {Q : Exit → Env → Store → Prop}
    (h : AWP P N k0 c env σ (blkA id Q)) : AWP P N k0 (.block id c) env σ Q := by
  intro F g a w hS hE hk
  refine wp_block (wp_mono (h F g a w hS hE hk) ?_)
  rintro e a' w' ⟨env', σ', g', h1, h2, h3, h4, h5⟩
  cases e with
  | exit id' =>
    simp only [blkA] at h1
    simp only [Exit.inBlock]
    split <;> rename_i hi
    · rw [if_pos hi] at h1; exact ⟨env', σ', g', h1, h2, h3, h4, h5⟩
    · rw [if_neg hi] at h1; exact ⟨env', σ', g', h1, h2, h3, h4, h5⟩
  | _ => exact ⟨env', σ', g', h1, h2, h3, h4, h5⟩

theorem vwp_sound (P : Program) (N k0 : Nat) : ∀ (c : Code) (env : Env) (σ : Store) (Q : Exit → Env → Store → Prop), vwp P N k0 c env σ Q → AWP P N k0 c env σ Q := by
  intro c
  induction c with
  | skip => exact fun env σ Q h F g a w hS hE hk => wp_skip ⟨env, σ, g, h, hk, .refl _ _, hS, hE⟩
  | region id ops draw =>
    intro env σ Q h
    cases draw with
    | true => exact h
    | false =>
      intro F g a w hS hE hk
      refine wp_region ?_
      have := vops_sound P N k0 ops Q ops.toList 0 rfl env σ h F g a w hS hE hk
      rwa [List.range_eq_range']
  | seq x y ihx ihy =>
    intro env σ Q h
    refine AWP.seq ((ihx _ _ _ h).mono ?_)
    intro e env' σ' h'
    cases e with
    | normal => exact ihy _ _ _ h'
    | _ => exact h'
  | cond c x y ihx ihy =>
    intro env σ Q h F g a w hS hE hk
    simp only [vwp] at h
    split at h
    · rename_i b hb
      have hv := hE.eval c
      rw [hb] at hv
      have hv' : a.eval c = .bool b := by cases hv with | pv hp => generalize a.eval c = u at hp; cases hp; rfl
      refine wp_cond hv' ?_
      cases b with
      | true => exact ihx _ _ _ (h.1 rfl) F g a w hS hE hk
      | false => exact ihy _ _ _ (h.2 rfl) F g a w hS hE hk
    · exact h.elim
  | block id c ih => exact fun env σ Q h => AWP.block (ih _ _ _ h)
  | exit id => exact fun env σ Q h F g a w hS hE hk => wp_exit ⟨env, σ, g, h, hk, .refl _ _, hS, hE⟩
  | ret => exact fun env σ Q h F g a w hS hE hk => wp_ret ⟨env, σ, g, h, hk, .refl _ _, hS, hE⟩
  | _ => exact fun env σ Q h => h

/-- A state may be told by less. -/
def Weak (N k0 : Nat) (env : Env) (σ : Store) (env' : Env) (σ' : Store) : Prop :=
  ∀ F g a w, RelS F g σ w → RelE N g σ.next env a → k0 ≤ σ.next → k0 ≤ σ'.next ∧ ∃ g', Ghost.le k0 g g' ∧ RelS F g' σ' w ∧ RelE N g' σ'.next env' a

theorem AWP.weak {P : Program} {N k0 : Nat} {c : Code} {env env' : Env} {σ σ' : Store} {Q : Exit → Env → Store → Prop} (hw : Weak N k0 env σ env' σ') (h : AWP P N k0 c env' σ' Q) : AWP P N k0 c env σ Q := by
  intro F g a w hS hE hk
  obtain ⟨hk', g', hg, hS', hE'⟩ := hw F g a w hS hE hk
  refine wp_mono (h F g' a w hS' hE' hk') ?_
  rintro e a'' w'' ⟨env'', σ'', g'', i1, i2, i3, i4, i5⟩
  exact ⟨env'', σ'', g'', i1, i2, hg.trans i3, i4, i5⟩

/-- A loop: a family of states, a measure. -/
theorem AWP.loop {P : Program} {N k0 : Nat} {c : Code} {α : Type} (E : α → Env) (S : α → Store) (I : α → Prop) (μ : α → Nat) {env : Env} {σ : Store} {Q : Exit → Env → Store → Prop}
    (h0 : ∃ x, I x ∧ Weak N k0 env σ (E x) (S x))
    (h : ∀ x, I x → AWP P N k0 c (E x) (S x) (thenA (fun env' σ' => ∃ y, I y ∧ μ y < μ x ∧ Weak N k0 env' σ' (E y) (S y)) Q)) : AWP P N k0 (.loop c) env σ Q := by
  intro F g a w hS hE hk
  obtain ⟨x, hx, hW⟩ := h0
  obtain ⟨hk1, g1, hg1, hS1, hE1⟩ := hW F g a w hS hE hk
  refine wp_loop_ghost (fun n a w => ∃ x g1, I x ∧ μ x = n ∧ k0 ≤ (S x).next ∧ Ghost.le k0 g g1 ∧ RelS F g1 (S x) w ∧ RelE N g1 (S x).next (E x) a) (μ x) ⟨x, g1, hx, rfl, hk1, hg1, hS1, hE1⟩ ?_
  rintro n a w ⟨x, g1, hx, rfl, hk1, hg1, hS1, hE1⟩
  refine wp_mono (h x hx F g1 a w hS1 hE1 hk1) ?_
  rintro e a' w' ⟨env', σ', g', h1, h2, h3, h4, h5⟩
  cases e with
  | normal =>
    obtain ⟨y, hy, hlt, hWy⟩ := h1
    obtain ⟨hk2, g2, hg2, hS2, hE2⟩ := hWy F g' a' w' h4 h5 h2
    exact ⟨μ y, hlt, y, g2, hy, rfl, hk2, (hg1.trans h3).trans hg2, hS2, hE2⟩
  | _ => exact ⟨env', σ', g', h1, h2, hg1.trans h3, h4, h5⟩
end Go.Proofs.Ytnanpamfdjnomaa.AL
