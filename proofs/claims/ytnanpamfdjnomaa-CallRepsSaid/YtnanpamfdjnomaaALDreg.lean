/- AL: a region that draws its order, reckoned in the text's order. -/
import Derived.Test.YtnanpamfdjnomaaALDraw
namespace Go.Proofs.Ytnanpamfdjnomaa.AL
open Go Go.RowKit

/-- What neither looks at the store nor turns it. -/
def storeless : Op → Bool
  | .move _ | .assign _ | .pick .. | .binOp .. | .unOp .. | .convert .. | .fieldAddr .. | .indexAddr .. | .slice .. | .build .. | .buildSlice .. | .extract .. | .nilCheck _ => true
  | .call { callee := .builtin .len, .. } | .call { callee := .builtin .min, .. } | .call { callee := .builtin .max, .. } => true
  | _ => false
def void : Store := ⟨fun _ => none, fun _ => none, 0⟩

theorem exA_storeless {P : Program} {op : Op} {env : Env} (h : storeless op = true) {c : Prop} {x : AV} {τ : Store} (he : exA P op env void = some (c, x, τ)) (σ : Store) : exA P op env σ = some (c, x, σ) := by
  have key : ∀ (r : Option (Prop × AV)), (r.map fun q => (q.1, q.2, void)) = some (c, x, τ) → (r.map fun q => (q.1, q.2, σ)) = some (c, x, σ) := by
    rintro (_ | ⟨a, b⟩) h
    · cases h
    · simp only [Option.map_some, Option.some.injEq, Prod.mk.injEq] at h ⊢
      exact ⟨h.1, h.2.1, trivial⟩
  have key1 : ∀ (r : Option AV), (r.map fun q => ((True : Prop), q, void)) = some (c, x, τ) → (r.map fun q => ((True : Prop), q, σ)) = some (c, x, σ) := by
    rintro (_ | b) h
    · cases h
    · simp only [Option.map_some, Option.some.injEq, Prod.mk.injEq] at h ⊢
      exact ⟨h.1, h.2.1, trivial⟩
  cases op <;> simp only [storeless] at h <;> try (cases h; done)
  case move y => simp only [exA, Option.some.injEq, Prod.mk.injEq] at he ⊢; exact ⟨he.1, he.2.1, trivial⟩
  case assign y => simp only [exA, Option.some.injEq, Prod.mk.injEq] at he ⊢; exact ⟨he.1, he.2.1, trivial⟩
  case pick a b d =>
    simp only [exA] at he ⊢
    split at he
    · simp only [Option.some.injEq, Prod.mk.injEq] at he ⊢; exact ⟨he.1, he.2.1, trivial⟩
    · cases he
  case binOp => simp only [exA] at he ⊢; exact key _ he
  case unOp => simp only [exA] at he ⊢; exact key1 _ he
  case convert => simp only [exA] at he ⊢; exact key1 _ he
  case fieldAddr => simp only [exA] at he ⊢; exact key1 _ he
  case indexAddr => simp only [exA] at he ⊢; exact key _ he
  case slice t y lo hi mx =>
    cases mx with
    | none => simp only [exA] at he ⊢; exact key _ he
    | some m => simp only [exA] at he; cases he
  case build => simp only [exA] at he ⊢; exact key1 _ he
  case buildSlice =>
    simp only [exA] at he ⊢
    split at he
    · split at he
      · rename_i hc
        rw [if_pos hc]
        generalize litsA _ _ _ = r at he ⊢
        cases r with
        | none => cases he
        | some b =>
          simp only [Option.map_some, Option.some.injEq, Prod.mk.injEq] at he ⊢
          exact ⟨he.1, he.2.1, trivial⟩
      · cases he
    · cases he
  case extract =>
    simp only [exA] at he ⊢
    split at he
    · exact key1 _ he
    · cases he
  case nilCheck =>
    simp only [exA] at he ⊢
    split at he <;> first
      | (cases he; done)
      | (simp only [Option.some.injEq, Prod.mk.injEq] at he ⊢; exact ⟨he.1, he.2.1, trivial⟩)
  case call cl =>
    obtain ⟨callee, args, ts⟩ := cl
    cases callee with
    | builtin b =>
      cases b <;> simp only at h <;> try (cases h; done)
      all_goals
        simp only [exA, builtinA] at he ⊢
        split at he <;> first
          | (cases he; done)
          | exact key1 _ he
          | contradiction
          | simp_all
    | value => simp only at h; cases h
    | invoke => simp only at h; cases h

/-- A load. -/
def loadA (P : Program) (σ : Store) (op : Op) (env : Env) (x : AV) : Prop := match op with
  | .load t a => match tSA P t with
    | some s => readA σ s (evalA env a) = some x
    | none => False
  | _ => False
def isLoad : Op → Bool
  | .load .. => true
  | _ => false

/-- A call of a Go function by its name; an append. -/
def isFn : Op → Bool
  | .call { callee := .value (.func _), .. } => true
  | .call { callee := .builtin .append, .. } => true
  | _ => false
theorem AOpc.of_aop {P : Program} {N : Nat} {op : Op} {env : Env} {σ : Store} {K : AV → Store → Prop} (h : aop P N op env σ K) : AOpc P N op env σ K := fun o ho => by
  subst ho; exact aop_sound h

section
variable (P : Program) (N : Nat) (ops : Array Oper) (chain : List Nat)

/-- The operations from number i on, in the text's order. lds: what was loaded; prs: the stores there were. -/
def dreg : List Oper → Nat → Env → Store → List (Op × Env × AV) → List Store → (Env → Store → Prop) → Prop
  | [], _, env, σ, _, _, K => K env σ
  | o :: os, i, env, σ, lds, prs, K =>
    match guardA ops env o with
    | none => False
    | some b => dOk N o.dst = true ∧
      (b = false → dreg os (i + 1) (env.put o.dst .any) σ lds prs K) ∧
      (b = true →
        if chain.contains i then
          ∃ x σ', aop P N o.op (look o.op env) σ (fun y τ => y = x ∧ τ = σ') ∧ σ.next ≤ σ'.next ∧ (chain.contains (i + 1000) = true ∨ ∀ l ∈ lds, loadA P σ' l.1 l.2.1 l.2.2) ∧ dreg os (i + 1) (env.put o.dst x) σ' (if chain.contains (i + 1000) = true then [] else lds) (σ :: prs) K
        else if isLoad o.op then
          ∃ x, loadA P σ o.op (look o.op env) x ∧ (∀ τ ∈ prs, loadA P τ o.op (look o.op env) x) ∧ dreg os (i + 1) (env.put o.dst x) σ ((o.op, look o.op env, x) :: lds) prs K
        else if isFn o.op then
          ∃ x, (∀ τ, AOpc P N o.op (look o.op env) τ (fun y τ' => y = x ∧ τ' = τ)) ∧ dreg os (i + 1) (env.put o.dst x) σ lds prs K
        else storeless o.op = true ∧
          match exA P o.op (look o.op env) void with
          | some (c, x, _) => c ∧ dreg os (i + 1) (env.put o.dst x) σ lds prs K
          | none => False)
end

theorem loadA_sound {P : Program} {N : Nat} {σ : Store} {o : Oper} {env : Env} {x : AV} (h : loadA P σ o.op env x) : AOp P N o env σ fun y τ => y = x ∧ τ = σ := by
  unfold loadA at h
  split at h
  · rename_i t a ho
    split at h
    · rename_i s hs
      exact exA_sound (c := True) (x := x) (σ' := σ) (by rw [ho]; simp [exA, hs, h]) trivial ⟨rfl, rfl⟩
    · exact h.elim
  · exact h.elim

/-- The plan, as far as number i. -/
structure PlanTo {P : Program} {N : Nat} {ops : Array Oper} {env0 : Env} (p : Plan P N ops env0) (σ0 : Store) (i : Nat) (env : Env) (σ : Store) (lds : List (Op × Env × AV)) (prs : List Store) : Prop where
  sto0 : p.sto 0 = σ0
  here : ∀ m, p.cnt (fun _ => true) i ≤ m → p.sto m = σ
  env : p.env (fun _ => true) i = env
  mono : ∀ m, (p.sto m).next ≤ (p.sto (m + 1)).next
  old : ∀ m, m < p.cnt (fun _ => true) i → p.sto m ∈ prs
  slot : ∀ (j : Nat) (o : Oper), j < i → ops[j]? = some o → ∀ s, o.dst = some s → s < N
  guard : ∀ (j : Nat) (o : Oper), j < i → ops[j]? = some o → guardA ops (p.env (fun _ => true) j) o = some (p.on j)
  off : ∀ j, j < i → p.on j = false → p.val j = .any
  free : ∀ (j : Nat) (o : Oper), j < i → ops[j]? = some o → p.on j = true → j ∉ p.chain → (∀ τ, AOp P N o (look o.op (p.env (fun _ => true) j)) τ fun x τ' => x = p.val j ∧ τ' = τ) ∨ (o.op, look o.op (p.env (fun _ => true) j), p.val j) ∈ lds ∨
    ∃ i', j < i' ∧ i' < i ∧ i' ∈ p.chain ∧ p.on i' = true ∧ Waits ops i' j ∧ ∀ m, m ≤ p.cnt (fun _ => true) i' → loadA P (p.sto m) o.op (look o.op (p.env (fun _ => true) j)) (p.val j)
  lds : ∀ l ∈ lds, ∀ m, m ≤ p.cnt (fun _ => true) i → loadA P (p.sto m) l.1 l.2.1 l.2.2
  chained : ∀ (j : Nat) (o : Oper), j < i → ops[j]? = some o → p.on j = true → j ∈ p.chain → AOp P N o (look o.op (p.env (fun _ => true) j)) (p.sto (p.cnt (fun _ => true) j)) fun x τ => x = p.val j ∧ τ = p.sto (p.cnt (fun _ => true) j + 1)

section
variable {P : Program} {N : Nat} {ops : Array Oper} {env0 : Env}

/-- One more number. -/
def Plan.more (p : Plan P N ops env0) (i : Nat) (b : Bool) (x : AV) (c : Nat) (σ' : Store) : Plan P N ops env0 :=
  { on := upd p.on i b, val := upd p.val i x, sto := fun m => if c < m then σ' else p.sto m, chain := p.chain }

theorem Plan.more_env (p : Plan P N ops env0) (i : Nat) (b : Bool) (x : AV) (c : Nat) (σ' : Store) : ∀ n, n ≤ i → (p.more i b x c σ').env (fun _ => true) n = p.env (fun _ => true) n
  | 0, _ => rfl
  | n + 1, h => by
    have ih := Plan.more_env p i b x c σ' n (by omega)
    simp only [Plan.env, if_true, ih]
    simp only [Plan.more, upd, if_neg (show ¬ n = i by omega)]
theorem Plan.more_cnt (p : Plan P N ops env0) (i : Nat) (b : Bool) (x : AV) (c : Nat) (σ' : Store) : ∀ n, n ≤ i → (p.more i b x c σ').cnt (fun _ => true) n = p.cnt (fun _ => true) n
  | 0, _ => rfl
  | n + 1, h => by
    have ih := Plan.more_cnt p i b x c σ' n (by omega)
    simp only [Plan.cnt, ih]
    simp only [Plan.more, upd, if_neg (show ¬ n = i by omega)]
theorem Plan.cnt_mono (p : Plan P N ops env0) (S : Nat → Bool) {j : Nat} : ∀ n, j ≤ n → p.cnt S j ≤ p.cnt S n
  | 0, h => by have : j = 0 := by omega
               subst this; exact Nat.le_refl _
  | n + 1, h => by
    by_cases q : j = n + 1
    · subst q; exact Nat.le_refl _
    · refine Nat.le_trans (Plan.cnt_mono p S n (by omega)) ?_
      simp only [Plan.cnt]
      split <;> omega

theorem PlanTo.more {p : Plan P N ops env0} {σ0 : Store} {i : Nat} {env : Env} {σ σ' : Store} {lds lds' : List (Op × Env × AV)} {prs prs' : List Store} (h : PlanTo p σ0 i env σ lds prs) (b : Bool) (x : AV) (o : Oper) (hoi : ops[i]? = some o)
    (hslot : ∀ s, o.dst = some s → s < N) (hg : guardA ops env o = some b) (hoff : b = false → x = .any)
    (hσ : σ.next ≤ σ'.next) (hinc : (b && p.chain.contains i) = false → σ' = σ) (hl : (∀ l ∈ lds, l ∈ lds') ∨ (b = true ∧ i ∈ p.chain ∧ ∀ j, j < i → Waits ops i j)) (hl' : ∀ l ∈ lds', (l ∈ lds ∧ loadA P σ' l.1 l.2.1 l.2.2) ∨ (σ' = σ ∧ loadA P σ l.1 l.2.1 l.2.2 ∧ ∀ τ ∈ prs, loadA P τ l.1 l.2.1 l.2.2))
    (hpr : ∀ τ ∈ prs, τ ∈ prs') (hpr' : (b && p.chain.contains i) = true → σ ∈ prs')
    (hfree : b = true → i ∉ p.chain → (∀ τ, AOp P N o (look o.op env) τ fun y τ' => y = x ∧ τ' = τ) ∨ (o.op, look o.op env, x) ∈ lds')
    (hch : b = true → i ∈ p.chain → AOp P N o (look o.op env) σ fun y τ => y = x ∧ τ = σ') :
    PlanTo (p.more i b x (p.cnt (fun _ => true) i) σ') σ0 (i + 1) (env.put o.dst x) σ' lds' prs' := by
  have hc1 : (p.more i b x (p.cnt (fun _ => true) i) σ').cnt (fun _ => true) (i + 1) = if b && p.chain.contains i then p.cnt (fun _ => true) i + 1 else p.cnt (fun _ => true) i := by
    simp only [Plan.cnt, p.more_cnt i b x _ σ' i (Nat.le_refl _)]
    simp only [Plan.more, upd, if_true, Bool.true_and, Bool.and_comm b]
  have hsto : ∀ m, m ≤ p.cnt (fun _ => true) i → (p.more i b x (p.cnt (fun _ => true) i) σ').sto m = p.sto m := fun m hm => by simp only [Plan.more, if_neg (show ¬ p.cnt (fun _ => true) i < m by omega)]
  have hsto' : ∀ m, p.cnt (fun _ => true) i < m → (p.more i b x (p.cnt (fun _ => true) i) σ').sto m = σ' := fun m hm => by simp only [Plan.more, if_pos hm]
  have hcur : p.sto (p.cnt (fun _ => true) i) = σ := h.here _ (Nat.le_refl _)
  have hval : (p.more i b x (p.cnt (fun _ => true) i) σ').val i = x := by simp [Plan.more, upd]
  have hon : (p.more i b x (p.cnt (fun _ => true) i) σ').on i = b := by simp [Plan.more, upd]
  have hval' : ∀ j, j < i → (p.more i b x (p.cnt (fun _ => true) i) σ').val j = p.val j := fun j hj => by simp only [Plan.more, upd, if_neg (show ¬ j = i by omega)]
  have hon' : ∀ j, j < i → (p.more i b x (p.cnt (fun _ => true) i) σ').on j = p.on j := fun j hj => by simp only [Plan.more, upd, if_neg (show ¬ j = i by omega)]
  have henv : ∀ j, j ≤ i → (p.more i b x (p.cnt (fun _ => true) i) σ').env (fun _ => true) j = p.env (fun _ => true) j := fun j hj => p.more_env i b x _ σ' j hj
  have hcn : ∀ j, j ≤ i → (p.more i b x (p.cnt (fun _ => true) i) σ').cnt (fun _ => true) j = p.cnt (fun _ => true) j := fun j hj => p.more_cnt i b x _ σ' j hj
  have hchn : (p.more i b x (p.cnt (fun _ => true) i) σ').chain = p.chain := rfl
  refine ⟨?_, fun m hm => ?_, ?_, fun m => ?_, fun m hm => ?_, fun j q hj hq => ?_, fun j q hj hq => ?_, fun j hj hq => ?_, fun j q hj hq ho hc => ?_, fun l hll m hm => ?_, fun j q hj hq ho hc => ?_⟩
  · rw [hsto 0 (Nat.zero_le _)]; exact h.sto0
  · rw [hc1] at hm
    by_cases q : p.cnt (fun _ => true) i < m
    · exact hsto' m q
    · rw [hsto m (by omega)]
      cases hbc : b && p.chain.contains i with
      | true => rw [hbc] at hm; simp at hm; omega
      | false =>
        rw [hbc] at hm
        have : m = p.cnt (fun _ => true) i := by simp at hm; omega
        rw [this, hcur, hinc hbc]
  · simp only [Plan.env, if_true, henv i (Nat.le_refl _), h.env, hval, dstOf, hoi, Option.bind_some]
  · by_cases q : p.cnt (fun _ => true) i < m
    · rw [hsto' m q, hsto' (m + 1) (by omega)]; exact Nat.le_refl _
    · rw [hsto m (by omega)]
      by_cases q2 : p.cnt (fun _ => true) i < m + 1
      · have : m = p.cnt (fun _ => true) i := by omega
        rw [hsto' (m + 1) q2, this, hcur]; exact hσ
      · rw [hsto (m + 1) (by omega)]; exact h.mono m
  · rw [hc1] at hm
    cases hbc : b && p.chain.contains i with
    | true =>
      rw [hbc] at hm
      simp at hm
      rw [hsto m (by omega)]
      by_cases q : m = p.cnt (fun _ => true) i
      · rw [q, hcur]; exact hpr' hbc
      · exact hpr _ (h.old m (by omega))
    | false =>
      rw [hbc] at hm
      simp at hm
      rw [hsto m (by omega)]
      exact hpr _ (h.old m hm)
  · rcases Nat.lt_succ_iff_lt_or_eq.1 hj with hj | rfl
    · exact h.slot j q hj hq
    · rw [hoi] at hq; injection hq with hq; subst hq; exact hslot
  · rcases Nat.lt_succ_iff_lt_or_eq.1 hj with hj | rfl
    · rw [henv j (Nat.le_of_lt hj), hon' j hj]; exact h.guard j q hj hq
    · rw [hoi] at hq; injection hq with hq; subst hq; rw [henv j (Nat.le_refl _), hon, h.env]; exact hg
  · rcases Nat.lt_succ_iff_lt_or_eq.1 hj with hj | rfl
    · rw [hon' j hj] at hq; rw [hval' j hj]; exact h.off j hj hq
    · rw [hon] at hq; rw [hval]; exact hoff hq
  · rw [hchn] at hc
    rcases Nat.lt_succ_iff_lt_or_eq.1 hj with hj | rfl
    · rw [hon' j hj] at ho
      rw [henv j (Nat.le_of_lt hj), hval' j hj]
      rcases h.free j q hj hq ho hc with hf | hf | ⟨i', f1, f2, f3, f4, f5, f6⟩
      · exact .inl hf
      · rcases hl with hl | ⟨e1, e2, e3⟩
        · exact .inr (.inl (hl _ hf))
        · refine .inr (.inr ⟨i, hj, Nat.lt_succ_self i, by rw [hchn]; exact e2, by rw [hon]; exact e1, e3 j hj, fun m hm => ?_⟩)
          rw [hcn i (Nat.le_refl _)] at hm
          rw [hsto m hm]
          exact h.lds _ hf m hm
      · refine .inr (.inr ⟨i', f1, by omega, by rw [hchn]; exact f3, by rw [hon' i' f2]; exact f4, f5, fun m hm => ?_⟩)
        rw [hcn i' (Nat.le_of_lt f2)] at hm
        rw [hsto m (Nat.le_trans hm (p.cnt_mono (fun _ => true) i (Nat.le_of_lt f2)))]
        exact f6 m hm
    · rw [hoi] at hq; injection hq with hq; subst hq
      rw [hon] at ho
      rw [henv j (Nat.le_refl _), hval, h.env]
      rcases hfree ho hc with hf | hf
      · exact .inl hf
      · exact .inr (.inl hf)
  · rw [hc1] at hm
    rcases hl' l hll with ⟨h1, h2⟩ | ⟨h1, h2, h3⟩
    · by_cases q : p.cnt (fun _ => true) i < m
      · rw [hsto' m q]; exact h2
      · rw [hsto m (by omega)]; exact h.lds l h1 m (by omega)
    · by_cases q : p.cnt (fun _ => true) i < m
      · rw [hsto' m q, h1]; exact h2
      · rw [hsto m (by omega)]
        by_cases q2 : m = p.cnt (fun _ => true) i
        · rw [q2, hcur]; exact h2
        · exact h3 _ (h.old m (by omega))
  · rw [hchn] at hc
    rcases Nat.lt_succ_iff_lt_or_eq.1 hj with hj | rfl
    · rw [hon' j hj] at ho
      rw [henv j (Nat.le_of_lt hj), hval' j hj, hcn j (Nat.le_of_lt hj)]
      have hjc : p.cnt (fun _ => true) j + 1 ≤ p.cnt (fun _ => true) i := by
        have h1 := p.cnt_mono (fun _ => true) (j := j + 1) i hj
        have h2 : p.cnt (fun _ => true) (j + 1) = p.cnt (fun _ => true) j + 1 := by simp [Plan.cnt, hc, ho]
        omega
      rw [hsto _ (by omega), hsto _ hjc]
      exact h.chained j q hj hq ho hc
    · rw [hoi] at hq; injection hq with hq; subst hq
      rw [hon] at ho
      rw [henv j (Nat.le_refl _), hval, h.env, hcn j (Nat.le_refl _), hsto _ (Nat.le_refl _), hsto' _ (Nat.lt_succ_self _), hcur]
      exact hch ho hc

theorem dreg_sound {K : Env → Store → Prop} {chain : List Nat} (hord : orderly ops chain = true) : ∀ (os : List Oper) (i : Nat) (env : Env) (σ : Store) (lds : List (Op × Env × AV)) (prs : List Store) (σ0 : Store) (p : Plan P N ops env0), ops.toList.drop i = os → i ≤ ops.size → p.chain = chain → PlanTo p σ0 i env σ lds prs →
    dreg P N ops chain os i env σ lds prs K → ∃ q : Plan P N ops env0, q.chain = chain ∧ q.Ok σ0 ∧ K (q.env (fun _ => true) ops.size) (q.sto (q.cnt (fun _ => true) ops.size)) := by
  intro os
  induction os with
  | nil =>
    intro i env σ lds prs σ0 p hd hle hc hp h
    have hi : i = ops.size := by
      rcases Nat.lt_or_ge i ops.size with h' | h'
      · have := List.drop_eq_getElem_cons (l := ops.toList) (i := i) (by simpa using h')
        rw [hd] at this; cases this
      · omega
    subst hi
    refine ⟨p, hc, ⟨hp.sto0, hp.mono, fun j o hj => hp.slot j o (by have := Array.getElem?_eq_some_iff.1 hj; exact this.1) hj, fun j o hj => hp.guard j o (by have := Array.getElem?_eq_some_iff.1 hj; exact this.1) hj, hp.off,
      fun j o hj ho hcj m hm hlim => ?_, fun j o hj => hp.chained j o (by have := Array.getElem?_eq_some_iff.1 hj; exact this.1) hj⟩, ?_⟩
    · have hjl : j < ops.size := (Array.getElem?_eq_some_iff.1 hj).1
      rcases hp.free j o hjl hj ho hcj with hf | hf | ⟨i', f1, f2, f3, f4, f5, f6⟩
      · exact hf _
      · exact loadA_sound (hp.lds _ hf m hm)
      · exact loadA_sound (f6 m (hlim i' f2 f3 f4 f5))
    · rw [hp.env, hp.here _ (Nat.le_refl _)]; exact h
  | cons o os ih =>
    intro i env σ lds prs σ0 p hd hle hc hp h
    have hlt : i < ops.toList.length := by
      rcases Nat.lt_or_ge i ops.toList.length with h' | h'
      · exact h'
      · rw [List.drop_eq_nil_of_le h'] at hd; cases hd
    have hcons := List.drop_eq_getElem_cons hlt
    rw [hd] at hcons
    injection hcons with h1 h2
    have hoi : ops[i]? = some o := by rw [← Array.getElem?_toList, List.getElem?_eq_getElem hlt, ← h1]
    have hi' : i + 1 ≤ ops.size := by simp at hlt; omega
    subst hc
    simp only [dreg] at h
    split at h
    · exact h.elim
    · rename_i b hg
      obtain ⟨hN, hoff, hon⟩ := h
      cases b with
      | false =>
        exact ih (i + 1) _ _ _ _ σ0 (p.more i false .any (p.cnt (fun _ => true) i) σ) h2.symm hi' rfl
          (hp.more false .any o hoi (dOk_spec hN) hg (fun _ => rfl) (Nat.le_refl _) (fun _ => rfl) (.inl fun l hl => hl) (fun l hl => .inl ⟨hl, by have := hp.lds l hl _ (Nat.le_refl _); rwa [hp.here _ (Nat.le_refl _)] at this⟩) (fun τ ht => ht) (fun hb => by cases hb) (fun hb => by cases hb) (fun hb => by cases hb)) (hoff rfl)
      | true =>
        have h := hon rfl
        split at h
        · rename_i hch
          obtain ⟨x, σ', ha, hn, hl, hr⟩ := h
          cases hlt2 : p.chain.contains (i + 1000) with
          | false =>
            simp only [hlt2, Bool.false_eq_true, false_or, if_false] at hl hr
            exact ih (i + 1) _ _ _ _ σ0 (p.more i true x (p.cnt (fun _ => true) i) σ') h2.symm hi' rfl
              (hp.more true x o hoi (dOk_spec hN) hg (fun hb => by cases hb) hn (fun hb => by rw [hch] at hb; cases hb) (.inl fun l hl => hl) (fun l h3 => .inl ⟨h3, hl l h3⟩) (fun τ ht => List.mem_cons_of_mem _ ht) (fun _ => List.mem_cons_self ..)
                (fun _ hnc => absurd (by simpa using hch) hnc) (fun _ _ => aop_sound ha)) hr
          | true =>
            simp only [hlt2, if_true] at hr
            exact ih (i + 1) _ _ _ _ σ0 (p.more i true x (p.cnt (fun _ => true) i) σ') h2.symm hi' rfl
              (hp.more true x o hoi (dOk_spec hN) hg (fun hb => by cases hb) hn (fun hb => by rw [hch] at hb; cases hb) (.inr ⟨rfl, by simpa using hch, fun j hj => orderly_late hord (by omega) hlt2 hj⟩) (fun l h3 => (by cases h3)) (fun τ ht => List.mem_cons_of_mem _ ht) (fun _ => List.mem_cons_self ..)
                (fun _ hnc => absurd (by simpa using hch) hnc) (fun _ _ => aop_sound ha)) hr
        · rename_i hch
          have hnc : i ∉ p.chain := by simpa using hch
          split at h
          · rename_i hld
            obtain ⟨x, hx, hpx, hr⟩ := h
            exact ih (i + 1) _ _ _ _ σ0 (p.more i true x (p.cnt (fun _ => true) i) σ) h2.symm hi' rfl
              (hp.more true x o hoi (dOk_spec hN) hg (fun hb => by cases hb) (Nat.le_refl _) (fun _ => rfl) (.inl fun l hl => List.mem_cons_of_mem _ hl)
                (fun l hl => by
                  rcases List.mem_cons.1 hl with rfl | hl
                  · exact .inr ⟨rfl, hx, hpx⟩
                  · exact .inl ⟨hl, by have := hp.lds l hl _ (Nat.le_refl _); rwa [hp.here _ (Nat.le_refl _)] at this⟩) (fun τ ht => ht) (fun hb => by simp at hb; exact absurd hb hnc)
                (fun _ _ => .inr (List.mem_cons_self ..)) (fun _ hic => absurd hic hnc)) hr
          split at h
          · obtain ⟨x, hx, hr⟩ := h
            exact ih (i + 1) _ _ _ _ σ0 (p.more i true x (p.cnt (fun _ => true) i) σ) h2.symm hi' rfl
              (hp.more true x o hoi (dOk_spec hN) hg (fun hb => by cases hb) (Nat.le_refl _) (fun _ => rfl) (.inl fun l hl => hl)
                (fun l hl => .inl ⟨hl, by have := hp.lds l hl _ (Nat.le_refl _); rwa [hp.here _ (Nat.le_refl _)] at this⟩) (fun τ ht => ht) (fun hb => by simp at hb; exact absurd hb hnc)
                (fun _ _ => .inl fun τ => hx τ o rfl) (fun _ hic => absurd hic hnc)) hr
          · obtain ⟨hst, h⟩ := h
            split at h
            · rename_i c x τ he
              exact ih (i + 1) _ _ _ _ σ0 (p.more i true x (p.cnt (fun _ => true) i) σ) h2.symm hi' rfl
                (hp.more true x o hoi (dOk_spec hN) hg (fun hb => by cases hb) (Nat.le_refl _) (fun _ => rfl) (.inl fun l hl => hl)
                  (fun l hl => .inl ⟨hl, by have := hp.lds l hl _ (Nat.le_refl _); rwa [hp.here _ (Nat.le_refl _)] at this⟩) (fun τ ht => ht) (fun hb => by simp at hb; exact absurd hb hnc)
                  (fun _ _ => .inl fun τ => exA_sound (exA_storeless hst he τ) h.1 ⟨rfl, rfl⟩) (fun _ hic => absurd hic hnc)) h.2
            · exact h.elim
end

/-- A region that draws its order: by the text's order. chain: those of its operations that turn the store or call. -/
theorem AWP.dreg {P : Program} {N k0 : Nat} {id : Nat} {ops : Array Oper} {env : Env} {σ : Store} (hm : P.follows .mixedOrders = true) (chain : List Nat) (ho : orderly ops chain = true) (hf : forward ops = true)
    {Q : Exit → Env → Store → Prop} (h : dreg P N ops chain ops.toList 0 env σ [] [] (Q .normal)) : AWP P N k0 (.region id ops true) env σ Q := by
  have h0 : PlanTo (P := P) (N := N) (ops := ops) (env0 := env) { on := fun _ => false, val := fun _ => .any, sto := fun _ => σ, chain := chain } σ 0 env σ [] [] :=
    ⟨rfl, fun _ _ => rfl, rfl, fun _ => Nat.le_refl _, fun m hm => (by simp [Plan.cnt] at hm), fun j _ hj => (by omega), fun j _ hj => (by omega), fun j hj => (by omega), fun j _ hj => (by omega), fun l hl => (by cases hl), fun j _ hj => (by omega)⟩
  obtain ⟨q, hq1, hq2, hq3⟩ := dreg_sound ho ops.toList 0 env σ [] [] σ _ rfl (Nat.zero_le _) rfl h0 h
  exact AWP.draw hm q hq2 (by rw [hq1]; exact ho) hf hq3

/-! ### What 'look' comes to -/
def lk (env : Env) : List Operand → Env
  | [] => []
  | .tmp t :: r => (t, env.get t) :: lk env r
  | .const _ :: r => lk env r
  | .global _ :: r => lk env r
  | .func _ :: r => lk env r
theorem look_lk {op : Op} {env : Env} {l : List Operand} (h : op.operands.toList = l) : look op env = lk env l := by
  unfold look
  rw [h]
  clear h
  induction l with
  | nil => rfl
  | cons x r ih => cases x <;> simp [lk, ih]
section
variable (env : Env)
theorem look_move (x : Operand) : look (.move x) env = lk env [x] := look_lk rfl
theorem look_assign (x : Operand) : look (.assign x) env = lk env [x] := look_lk rfl
theorem look_pick (a b c : Operand) : look (.pick a b c) env = lk env [a, b, c] := look_lk rfl
theorem look_alloc (t : TypeId) : look (.alloc t) env = lk env [] := look_lk rfl
theorem look_box (t : TypeId) (x : Operand) : look (.box t x) env = lk env [x] := look_lk rfl
theorem look_build (t : TypeId) (ps : Array (Nat × Operand)) : look (.build t ps) env = lk env (ps.toList.map (·.2)) := look_lk (by simp [Op.operands])
theorem look_buildSlice (t n : Nat) (ps : Array (Nat × Operand)) : look (.buildSlice t n ps) env = lk env (ps.toList.map (·.2)) := look_lk (by simp [Op.operands])
theorem look_load (t : TypeId) (x : Operand) : look (.load t x) env = lk env [x] := look_lk rfl
theorem look_store (t : TypeId) (x y : Operand) : look (.store t x y) env = lk env [x, y] := look_lk rfl
theorem look_nilCheck (x : Operand) : look (.nilCheck x) env = lk env [x] := look_lk rfl
theorem look_binOp (o : BinOp) (t : TypeId) (x y : Operand) (u : TypeId) : look (.binOp o t x y u) env = lk env [x, y] := look_lk rfl
theorem look_unOp (o : UnOp) (t : TypeId) (x : Operand) : look (.unOp o t x) env = lk env [x] := look_lk rfl
theorem look_convert (s d : TypeId) (x : Operand) : look (.convert s d x) env = lk env [x] := look_lk rfl
theorem look_fieldAddr (t : TypeId) (x : Operand) (f : Nat) : look (.fieldAddr t x f) env = lk env [x] := look_lk rfl
theorem look_indexAddr (t : TypeId) (x i : Operand) : look (.indexAddr t x i) env = lk env [x, i] := look_lk rfl
theorem look_extract (x : Operand) (i : Nat) : look (.extract x i) env = lk env [x] := look_lk rfl
theorem look_makeSlice (t : TypeId) (x y : Operand) : look (.makeSlice t x y) env = lk env [x, y] := look_lk rfl
theorem look_slice (t : TypeId) (x : Operand) (lo hi : Option Operand) : look (.slice t x lo hi none) env = lk env (x :: (lo.toList ++ hi.toList)) := look_lk (by cases lo <;> cases hi <;> rfl)
theorem look_builtin (b : Builtin) (args : Array Operand) (ts : Array TypeId) : look (.call { callee := .builtin b, args := args, argTypes := ts }) env = lk env args.toList := look_lk (by simp [Op.operands, Call.operands])
theorem look_call (f : FuncId) (args : Array Operand) (ts : Array TypeId) : look (.call { callee := .value (.func f), args := args, argTypes := ts }) env = lk env args.toList := by
  rw [look_lk (l := .func f :: args.toList) (by simp [Op.operands, Call.operands])]; rfl
end
end Go.Proofs.Ytnanpamfdjnomaa.AL
