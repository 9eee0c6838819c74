/- AL: a region that draws its order comes to what the text's order comes to. -/
import Derived.Test.YtnanpamfdjnomaaALEnd
import Derived.Orders
namespace Go.Proofs.Ytnanpamfdjnomaa.AL
open Go Go.RowKit

/-- The operations that op number i waits for, named by it. -/
def dirs (ops : Array Oper) (i : Nat) : List Nat := match ops[i]? with | some o => o.after.toList.filterMap fun e => if Region.binds .any e then some e.on else none | none => []
def dstOf (ops : Array Oper) (i : Nat) : Option Nat := (ops[i]?).bind (·.dst)
/-- The slots that it looks at or writes. -/
def slots (ops : Array Oper) (i : Nat) : List Nat := match ops[i]? with
  | some o => (o.op.operands.toList.filterMap fun | .tmp t => some t | _ => none) ++ (match o.guard with | some (j, _) => (dstOf ops j).toList | none => []) ++ o.dst.toList
  | none => []
/-- i behind j, by some steps. -/
inductive Waits (ops : Array Oper) : Nat → Nat → Prop where
  | one {i j : Nat} (h : j ∈ dirs ops i) : Waits ops i j
  | step {i k j : Nat} (h : k ∈ dirs ops i) (r : Waits ops k j) : Waits ops i j

def waitsB (ops : Array Oper) : Nat → Nat → Nat → Bool
  | 0, _, _ => false
  | f + 1, i, j => (dirs ops i).contains j || (dirs ops i).any fun k => decide (j < k) && waitsB ops f k j
theorem waitsB_sound (ops : Array Oper) : ∀ (f i j : Nat), waitsB ops f i j = true → Waits ops i j
  | 0, _, _, h => by cases h
  | f + 1, i, j, h => by
    simp only [waitsB, Bool.or_eq_true, List.any_eq_true, Bool.and_eq_true] at h
    rcases h with h | ⟨k, h1, _, h2⟩
    · exact .one (by simpa using h)
    · exact .step h1 (waitsB_sound ops f k j h2)

/-- Any two of them of which one writes what the other names wait for one another; so do any two of the chain; what bears a mark (its number and 1000) waits for all before it. -/
def orderly (ops : Array Oper) (chain : List Nat) : Bool :=
  ((List.range ops.size).all fun i => (List.range i).all fun j =>
    (!((dstOf ops i).toList.any fun t => (slots ops j).contains t) && !((dstOf ops j).toList.any fun t => (slots ops i).contains t) && !(chain.contains i && chain.contains j)) || waitsB ops ops.size i j) &&
  ((List.range ops.size).all fun i => !chain.contains (i + 1000) || (List.range i).all fun j => waitsB ops ops.size i j)

theorem orderly_spec {ops : Array Oper} {chain : List Nat} (h : orderly ops chain = true) {i j : Nat} (hi : i < ops.size) (hj : j < i)
    (hc : (∃ t, dstOf ops i = some t ∧ t ∈ slots ops j) ∨ (∃ t, dstOf ops j = some t ∧ t ∈ slots ops i) ∨ (i ∈ chain ∧ j ∈ chain)) : Waits ops i j := by
  simp only [orderly, Bool.and_eq_true (List.all _ _), List.all_eq_true, List.mem_range] at h
  have h1 := h.1 i hi j hj
  simp only [Bool.or_eq_true] at h1
  rcases h1 with h1 | h1
  · simp only [Bool.and_eq_true, Bool.not_eq_true'] at h1
    obtain ⟨⟨a1, a2⟩, a3⟩ := h1
    rcases hc with ⟨t, h2, h3⟩ | ⟨t, h2, h3⟩ | ⟨h2, h3⟩
    · rw [h2] at a1; simp at a1; exact absurd h3 a1
    · rw [h2] at a2; simp at a2; exact absurd h3 a2
    · simp at a3; exact absurd h3 (a3 h2)
  · exact waitsB_sound _ _ _ _ h1

theorem orderly_late {ops : Array Oper} {chain : List Nat} (h : orderly ops chain = true) {i : Nat} (hi : i < ops.size) (hc : chain.contains (i + 1000) = true) {j : Nat} (hj : j < i) : Waits ops i j := by
  simp only [orderly, Bool.and_eq_true (List.all _ _)] at h
  have h2 := List.all_eq_true.1 h.2 i (List.mem_range.2 hi)
  rw [hc] at h2
  exact waitsB_sound _ _ _ _ (List.all_eq_true.1 (by simpa using h2) j (List.mem_range.2 hj))

/-- What a region's operations leave, told by the text's order. -/
structure Plan (P : Program) (N : Nat) (ops : Array Oper) (env0 : Env) where
  on : Nat → Bool
  val : Nat → AV
  sto : Nat → Store
  chain : List Nat

section
variable {P : Program} {N : Nat} {ops : Array Oper} {env0 : Env}

/-- The slots when those of S among the first n have come up. -/
def Plan.env (p : Plan P N ops env0) (S : Nat → Bool) : Nat → Env
  | 0 => env0
  | i + 1 => if S i then (p.env S i).put (dstOf ops i) (p.val i) else p.env S i
/-- How many of the chain are among those of S below n. -/
def Plan.cnt (p : Plan P N ops env0) (S : Nat → Bool) : Nat → Nat
  | 0 => 0
  | i + 1 => if S i && p.chain.contains i && p.on i then p.cnt S i + 1 else p.cnt S i

theorem Plan.env_get (p : Plan P N ops env0) {S T : Nat → Bool} {t : Nat} : ∀ n, (∀ j, j < n → dstOf ops j = some t → S j = T j) → (p.env S n).get t = (p.env T n).get t
  | 0, _ => rfl
  | i + 1, h => by
    have ih := Plan.env_get p (S := S) (T := T) (t := t) i fun j hj => h j (Nat.lt_succ_of_lt hj)
    simp only [Plan.env]
    by_cases hd : dstOf ops i = some t
    · rw [h i (Nat.lt_succ_self i) hd]
      split
      · rw [hd]; simp [Env.put, Env.get]
      · exact ih
    · have hp : ∀ e : Env, (e.put (dstOf ops i) (p.val i)).get t = e.get t := fun e => by
        cases hq : dstOf ops i with
        | none => rfl
        | some s => simp only [Env.put, Env.get]; rw [if_neg (fun hst => hd (by rw [hq, hst]))]
      split <;> split <;> (try simp only [hp]) <;> exact ih

theorem Plan.env_below (p : Plan P N ops env0) {S : Nat → Bool} {t i : Nat} : ∀ n, i ≤ n → (∀ j, i ≤ j → j < n → dstOf ops j = some t → S j = false) → (p.env S n).get t = (p.env S i).get t
  | 0, hi, _ => by have : i = 0 := by omega
                   subst this; rfl
  | n + 1, hi, h => by
    by_cases hin : i = n + 1
    · subst hin; rfl
    · have ih := Plan.env_below p (S := S) (t := t) (i := i) n (by omega) fun j h1 h2 => h j h1 (Nat.lt_succ_of_lt h2)
      rw [← ih]
      simp only [Plan.env]
      by_cases hd : dstOf ops n = some t
      · rw [h n (by omega) (Nat.lt_succ_self n) hd]; simp
      · split
        · cases hq : dstOf ops n with
          | none => rfl
          | some s => simp only [Env.put, Env.get]; rw [if_neg (fun hst => hd (by rw [hq, hst]))]
        · rfl

theorem Plan.cnt_eq (p : Plan P N ops env0) {S T : Nat → Bool} : ∀ n, (∀ j, j < n → p.chain.contains j = true → p.on j = true → S j = T j) → p.cnt S n = p.cnt T n
  | 0, _ => rfl
  | i + 1, h => by
    have ih := Plan.cnt_eq p (S := S) (T := T) i fun j hj => h j (Nat.lt_succ_of_lt hj)
    simp only [Plan.cnt]
    cases hc : p.chain.contains i with
    | false => simp [ih]
    | true => cases ho : p.on i with
      | false => simp [ih]
      | true => rw [h i (Nat.lt_succ_self i) hc ho, ih]
theorem Plan.cnt_below (p : Plan P N ops env0) {S : Nat → Bool} {i : Nat} : ∀ n, i ≤ n → (∀ j, i ≤ j → j < n → p.chain.contains j = true → p.on j = true → S j = false) → p.cnt S n = p.cnt S i
  | 0, hi, _ => by have : i = 0 := by omega
                   subst this; rfl
  | n + 1, hi, h => by
    by_cases hin : i = n + 1
    · subst hin; rfl
    · have ih := Plan.cnt_below p (S := S) (i := i) n (by omega) fun j h1 h2 => h j h1 (Nat.lt_succ_of_lt h2)
      rw [← ih]
      simp only [Plan.cnt]
      cases hc : p.chain.contains n with
      | false => simp
      | true => cases ho : p.on n with
        | false => simp
        | true => rw [h n (by omega) (Nat.lt_succ_self n) hc ho]; simp

/-- The slots that an operation reads, and what they hold. -/
def look (op : Op) (env : Env) : Env := op.operands.toList.filterMap fun | .tmp t => some (t, env.get t) | _ => none

theorem look_get {op : Op} {env : Env} (t : Nat) : (look op env).get t = .any ∨ .tmp t ∈ op.operands.toList ∧ (look op env).get t = env.get t := by
  unfold look
  generalize op.operands.toList = l
  induction l with
  | nil => exact .inl rfl
  | cons x l ih =>
    cases x with
    | tmp s =>
      simp only [List.filterMap_cons, Env.get]
      by_cases h : s = t
      · subst h; right; simp
      · rw [if_neg h]
        rcases ih with ih | ⟨h1, h2⟩
        · exact .inl ih
        · exact .inr ⟨List.mem_cons_of_mem _ h1, h2⟩
    | _ =>
      simp only [List.filterMap_cons]
      rcases ih with ih | ⟨h1, h2⟩
      · exact .inl ih
      · exact .inr ⟨List.mem_cons_of_mem _ h1, h2⟩

/-- An operation looks at its own operands alone. -/
theorem AOp.look {o : Oper} {env env' : Env} {σ : Store} {K : AV → Store → Prop} (h : AOp P N o (look o.op env) σ K) (he : ∀ t, .tmp t ∈ o.op.operands.toList → env'.get t = env.get t) : AOp P N o env' σ K := by
  intro F g a w hS hE Q
  refine h F g a w hS ⟨hE.defers, hE.size, fun t => ?_⟩ Q
  rcases look_get (op := o.op) (env := env) t with h1 | ⟨h1, h2⟩
  · rw [h1]; exact .any _
  · rw [h2, ← he t h1]; exact hE.slot t

/-- The plan holds. -/
structure Plan.Ok (p : Plan P N ops env0) (σ0 : Store) : Prop where
  sto0 : p.sto 0 = σ0
  mono : ∀ m, (p.sto m).next ≤ (p.sto (m + 1)).next
  slot : ∀ (i : Nat) (o : Oper), ops[i]? = some o → ∀ s, o.dst = some s → s < N
  guard : ∀ (i : Nat) (o : Oper), ops[i]? = some o → guardA ops (p.env (fun _ => true) i) o = some (p.on i)
  off : ∀ i, i < ops.size → p.on i = false → p.val i = .any
  free : ∀ (i : Nat) (o : Oper), ops[i]? = some o → p.on i = true → i ∉ p.chain → ∀ m, m ≤ p.cnt (fun _ => true) ops.size → (∀ i', i' < ops.size → i' ∈ p.chain → p.on i' = true → Waits ops i' i → m ≤ p.cnt (fun _ => true) i') → AOp P N o (look o.op (p.env (fun _ => true) i)) (p.sto m) fun x τ => x = p.val i ∧ τ = p.sto m
  chained : ∀ (i : Nat) (o : Oper), ops[i]? = some o → p.on i = true → i ∈ p.chain → AOp P N o (look o.op (p.env (fun _ => true) i)) (p.sto (p.cnt (fun _ => true) i)) fun x τ => x = p.val i ∧ τ = p.sto (p.cnt (fun _ => true) i + 1)

theorem Plan.Ok.next_le {p : Plan P N ops env0} {σ0 : Store} (h : p.Ok σ0) : ∀ m, σ0.next ≤ (p.sto m).next
  | 0 => by rw [h.sto0]; exact Nat.le_refl _
  | m + 1 => Nat.le_trans (h.next_le m) (h.mono m)

theorem waits_closed {S : Nat → Bool} (hcl : ∀ i, S i = true → ∀ j ∈ dirs ops i, S j = true) {i j : Nat} (h : Waits ops i j) : S i = true → S j = true := by
  induction h with
  | one h => exact fun hi => hcl _ hi _ h
  | step h _ ih => exact fun hi => ih (hcl _ hi _ h)

theorem cnt_le (p : Plan P N ops env0) (S : Nat → Bool) : ∀ n, p.cnt S n ≤ p.cnt (fun _ => true) n
  | 0 => Nat.le_refl _
  | n + 1 => by
    have := cnt_le p S n
    simp only [Plan.cnt, Bool.true_and]
    cases S n <;> cases p.chain.contains n <;> cases p.on n <;> simp <;> omega

theorem draw_any {p : Plan P N ops env0} {σ0 : Store} (hp : p.Ok σ0) (ho : orderly ops p.chain = true) {Q : Env → Store → Prop} (hQ : ∀ env, (∀ t, env.get t = (p.env (fun _ => true) ops.size).get t) → Q env (p.sto (p.cnt (fun _ => true) ops.size))) (k0 : Nat) (hk0 : k0 ≤ σ0.next) (F : Base) (g0 : Ghost)
    (full : ∀ listed : Array Bool, listed.size = ops.size → Region.ready .any ops listed = [] → (∀ i, listed.getD i false = true → ∀ j ∈ dirs ops i, listed.getD j false = true) → ∀ i, i < ops.size → listed.getD i false = true) :
    ∀ (fuel : Nat) (listed : Array Bool) (a : Act) (w : World) (g : Ghost), listed.size = ops.size → (ops.size ≤ fuel + (listed.toList.filter id).length) →
      (∀ i, listed.getD i false = true → ∀ j ∈ dirs ops i, listed.getD j false = true) → Ghost.le k0 g0 g →
      RelS F g (p.sto (p.cnt (fun i => listed.getD i false) ops.size)) w → RelE N g (p.sto (p.cnt (fun i => listed.getD i false) ops.size)).next (p.env (fun i => listed.getD i false) ops.size) a →
      wpAny P .any ops (fun e a' w' => e = .normal ∧ ∃ env' σ' g', Q env' σ' ∧ k0 ≤ σ'.next ∧ Ghost.le k0 g0 g' ∧ RelS F g' σ' w' ∧ RelE N g' σ'.next env' a') fuel listed a w := by
  -- at the end
  have fin : ∀ (listed : Array Bool) (a : Act) (w : World) (g : Ghost), listed.size = ops.size → Region.ready .any ops listed = [] → (∀ i, listed.getD i false = true → ∀ j ∈ dirs ops i, listed.getD j false = true) → Ghost.le k0 g0 g →
      RelS F g (p.sto (p.cnt (fun i => listed.getD i false) ops.size)) w → RelE N g (p.sto (p.cnt (fun i => listed.getD i false) ops.size)).next (p.env (fun i => listed.getD i false) ops.size) a →
      ∃ env' σ' g', Q env' σ' ∧ k0 ≤ σ'.next ∧ Ghost.le k0 g0 g' ∧ RelS F g' σ' w ∧ RelE N g' σ'.next env' a := by
    intro listed a w g hs hr hcl hg hS hE
    have hall := full listed hs hr hcl
    have hc : p.cnt (fun i => listed.getD i false) ops.size = p.cnt (fun _ => true) ops.size := p.cnt_eq _ fun j hj _ _ => hall j hj
    rw [hc] at hS hE
    exact ⟨_, _, g, hQ _ fun t => p.env_get _ fun j hj _ => hall j hj, Nat.le_trans hk0 (hp.next_le _), hg, hS, hE⟩
  intro fuel
  induction fuel with
  | zero =>
    intro listed a w g hs hf hcl hg hS hE
    have hr : Region.ready .any ops listed = [] := by
      apply List.filter_eq_nil_iff.2
      intro i hi
      have hi' := List.mem_range.1 hi
      have hall : ∀ b ∈ listed.toList, b = true := by
        have h1 : (listed.toList.filter id).length = listed.toList.length := Nat.le_antisymm (List.length_filter_le _ _) (by simp [hs]; omega)
        exact fun b hb => by simpa using (List.length_filter_eq_length_iff.1 h1) b hb
      have : listed.getD i true = true := by
        have hlt : i < listed.size := by omega
        simp only [Array.getD, hlt, dif_pos]
        exact hall _ (by simp)
      simp [this]
    exact ⟨hr, rfl, fin listed a w g hs hr hcl hg hS hE⟩
  | succ fuel ih =>
    intro listed a w g hs hf hcl hg hS hE
    refine ⟨fun hr => ⟨rfl, fin listed a w g hs hr hcl hg hS hE⟩, fun i hi => ?_⟩
    -- number i comes up
    have hi2 := List.mem_filter.1 hi
    have hin : i < ops.size := List.mem_range.1 hi2.1
    have hoi : ops[i]? = some ops[i] := Array.getElem?_eq_getElem hin
    simp only [Bool.and_eq_true, Bool.not_eq_true', hoi, Option.map_some, Option.getD_some] at hi2
    have hun : listed.getD i false = false := by
      have := hi2.2.1
      have hlt : i < listed.size := by omega
      simp only [Array.getD, hlt, dif_pos] at this ⊢
      exact this
    have hdir : ∀ j ∈ dirs ops i, listed.getD j false = true := by
      intro j hj
      unfold dirs at hj
      rw [hoi] at hj
      simp only [List.mem_filterMap] at hj
      obtain ⟨e, he, hej⟩ := hj
      split at hej
      · rename_i hb
        injection hej with hej; subst hej
        have := (Array.all_eq_true'.1 hi2.2.2) e (by simpa using he)
        simpa [hb] using this
      · cases hej
    -- what is listed then
    have hset : ∀ k, (listed.setIfInBounds i true).getD k false = if k = i then true else listed.getD k false := by
      intro k
      have hlt : i < listed.size := by omega
      by_cases hk : k = i
      · subst hk; simp [Array.getD, hlt]
      · rw [if_neg hk]
        simp only [Array.getD_eq_getD_getElem?, Array.getElem?_setIfInBounds_ne (Ne.symm hk)]
    have hcl' : ∀ k, (listed.setIfInBounds i true).getD k false = true → ∀ j ∈ dirs ops k, (listed.setIfInBounds i true).getD j false = true := by
      intro k hk j hj
      rw [hset] at hk ⊢
      split
      · rfl
      · by_cases hki : k = i
        · subst hki; exact hdir j hj
        · rw [if_neg hki] at hk; exact hcl k hk j hj
    have hfuel : ops.size ≤ fuel + ((listed.setIfInBounds i true).toList.filter id).length := by
      have hlt : i < listed.toList.length := by simpa [hs] using hin
      have e1 : listed.toList = listed.toList.take i ++ false :: listed.toList.drop (i + 1) := by
        have h1 : listed.toList[i] = false := by
          have hl : i < listed.size := by omega
          simp only [Array.getD, hl, dif_pos] at hun
          simpa using hun
        rw [← h1, ← List.drop_eq_getElem_cons hlt, List.take_append_drop]
      have e2 : (listed.setIfInBounds i true).toList = listed.toList.take i ++ true :: listed.toList.drop (i + 1) := by
        rw [Array.toList_setIfInBounds, List.set_eq_take_append_cons_drop, if_pos hlt]
      rw [e2]
      rw [e1] at hf
      simp only [List.filter_append, List.filter_cons, id, List.length_append] at hf ⊢
      simp at hf ⊢
      omega
    have waitsI : ∀ j, Waits ops i j → listed.getD j false = true := by
      intro j h
      cases h with
      | one h => exact hdir _ h
      | step h r => exact waits_closed (S := fun j => listed.getD j false) hcl r (hdir _ h)
    have near : ∀ j t, j < ops.size → j ≠ i → dstOf ops j = some t → t ∈ slots ops i → (listed.getD j false = true ↔ j < i) := by
      intro j t hj hji hd ht
      constructor
      · intro hlj
        rcases Nat.lt_trichotomy j i with h | h | h
        · exact h
        · exact absurd h hji
        · have hw := orderly_spec ho hj h (.inl ⟨t, hd, ht⟩)
          have := waits_closed (S := fun j => listed.getD j false) hcl hw hlj
          rw [hun] at this; cases this
      · intro hlt
        exact waitsI j (orderly_spec ho hin hlt (.inr (.inl ⟨t, hd, ht⟩)))
    have nearC : i ∈ p.chain → ∀ j, j < ops.size → j ≠ i → j ∈ p.chain → (listed.getD j false = true ↔ j < i) := by
      intro hic j hj hji hjc
      constructor
      · intro hlj
        rcases Nat.lt_trichotomy j i with h | h | h
        · exact h
        · exact absurd h hji
        · have hw := orderly_spec ho hj h (.inr (.inr ⟨hjc, hic⟩))
          have := waits_closed (S := fun j => listed.getD j false) hcl hw hlj
          rw [hun] at this; cases this
      · intro hlt
        exact waitsI j (orderly_spec ho hin hlt (.inr (.inr ⟨hic, hjc⟩)))
    -- its slots hold what they hold in the text's order
    have hget : ∀ t ∈ slots ops i, (p.env (fun j => listed.getD j false) ops.size).get t = (p.env (fun _ => true) i).get t := by
      intro t ht
      have h1 := p.env_get (S := fun j => listed.getD j false) (T := fun j => decide (j < i)) (t := t) ops.size fun j hj hd => by
        by_cases hji : j = i
        · subst hji; simp [hun]
        · have := near j t hj hji hd ht
          by_cases q : j < i
          · simp [q, this.2 q]
          · simp only [q, decide_false]
            cases hl : listed.getD j false with
            | false => rfl
            | true => exact absurd (this.1 hl) q
      have h2 := p.env_below (S := fun j => decide (j < i)) (t := t) (i := i) ops.size (Nat.le_of_lt hin) fun j h3 _ _ => by simp; omega
      have h4 := p.env_get (S := fun j => decide (j < i)) (T := fun _ => true) (t := t) i fun j hj _ => by simp [hj]
      rw [h1, h2, h4]
    have hguard : guardA ops (p.env (fun j => listed.getD j false) ops.size) ops[i] = some (p.on i) := by
      rw [← hp.guard i _ hoi]
      unfold guardA
      cases hg : ops[i].guard with
      | none => rfl
      | some jw =>
        obtain ⟨j, want⟩ := jw
        dsimp only
        cases hd : (ops[j]?).bind (·.dst) with
        | none => rfl
        | some t =>
          dsimp only
          rw [hget t (by unfold slots; rw [hoi]; simp [hg, dstOf, hd])]
    have hdst : dstOf ops i = ops[i].dst := by simp [dstOf, hoi]
    have hslot : ∀ s, ops[i].dst = some s → s < N := hp.slot i _ hoi
    have hown : ∀ t, ops[i].dst = some t → t ∈ slots ops i := fun t ht => by unfold slots; rw [hoi]; simp [ht]
    -- the slots behind it
    have hput : ∀ t, ((p.env (fun j => listed.getD j false) ops.size).put ops[i].dst (p.val i)).get t = (p.env (fun j => (listed.setIfInBounds i true).getD j false) ops.size).get t := by
      intro t
      by_cases hd : ops[i].dst = some t
      · have h1 := p.env_get (S := fun j => (listed.setIfInBounds i true).getD j false) (T := fun j => decide (j < i + 1)) (t := t) ops.size fun j hj hdj => by
          skip
          rw [hset]
          by_cases hji : j = i
          · subst hji; simp
          · rw [if_neg hji]
            have := near j t hj hji hdj (hown t hd)
            by_cases q : j < i
            · simp [this.2 q]; omega
            · have q2 : ¬ j < i + 1 := by omega
              simp only [q2, decide_false]
              cases hl : listed.getD j false with
              | false => rfl
              | true => exact absurd (this.1 hl) q
        have h2 := p.env_below (S := fun j => decide (j < i + 1)) (t := t) (i := i + 1) ops.size hin fun j h3 _ _ => by simp; omega
        rw [h1, h2]
        simp only [Plan.env]
        simp [hd, hdst, Env.put, Env.get]
      · have hne : ∀ e : Env, (e.put ops[i].dst (p.val i)).get t = e.get t := fun e => by
          cases hq : ops[i].dst with
          | none => rfl
          | some s => simp only [Env.put, Env.get]; rw [if_neg (fun hst => hd (by rw [hq, hst]))]
        rw [hne]
        refine p.env_get _ fun j hj hdj => ?_
        skip
        rw [hset]
        by_cases hji : j = i
        · subst hji; rw [hdst] at hdj; exact absurd hdj hd
        · rw [if_neg hji]
    unfold wpOp
    rw [hoi]
    dsimp only
    have hw := guardA_sound hE hguard
    cases hon : p.on i with
    | false =>
      rw [hon] at hw
      rw [if_neg (by rw [hw]; simp)]
      have hc : p.cnt (fun j => (listed.setIfInBounds i true).getD j false) ops.size = p.cnt (fun j => listed.getD j false) ops.size := p.cnt_eq _ fun j hj _ hoj => by
        skip
        rw [hset]
        by_cases hji : j = i
        · subst hji; rw [hon] at hoj; cases hoj
        · rw [if_neg hji]
      have hE' := hE.put (.refl _ _) (Nat.le_refl _) ops[i].dst hslot (x := .any) (v := undef) (.any _)
      refine ih _ _ w g (by simpa using hs) hfuel hcl' hg (by rw [hc]; exact hS) ⟨hE'.defers, hE'.size, fun t => ?_⟩
      rw [← hput t, hp.off i hin hon, hc]
      exact hE'.slot t
    | true =>
      rw [hon] at hw
      rw [if_pos hw]
      have hA : AOp P N ops[i] (p.env (fun j => listed.getD j false) ops.size) (p.sto (p.cnt (fun j => listed.getD j false) ops.size))
          fun x τ => x = p.val i ∧ τ = p.sto (p.cnt (fun j => (listed.setIfInBounds i true).getD j false) ops.size) := by
        have hlook : ∀ t, Operand.tmp t ∈ ops[i].op.operands.toList → (p.env (fun j => listed.getD j false) ops.size).get t = (p.env (fun _ => true) i).get t := fun t ht => hget t (by
          unfold slots; rw [hoi]
          simp only [List.mem_append, List.mem_filterMap]
          exact .inl (.inl ⟨.tmp t, ht, rfl⟩))
        by_cases hic : i ∈ p.chain
        · have e1 : p.cnt (fun j => listed.getD j false) ops.size = p.cnt (fun _ => true) i := by
            have h1 := p.cnt_eq (S := fun j => listed.getD j false) (T := fun j => decide (j < i)) ops.size fun j hj hjc _ => by
              by_cases hji : j = i
              · subst hji; simp [hun]
              · have := nearC hic j hj hji (by simpa using hjc)
                by_cases q : j < i
                · simp [q, this.2 q]
                · simp only [q, decide_false]
                  cases hl : listed.getD j false with
                  | false => rfl
                  | true => exact absurd (this.1 hl) q
            have h2 := p.cnt_below (S := fun j => decide (j < i)) (i := i) ops.size (Nat.le_of_lt hin) fun j h3 _ _ _ => by simp; omega
            have h4 := p.cnt_eq (S := fun j => decide (j < i)) (T := fun _ => true) i fun j hj _ _ => by simp [hj]
            rw [h1, h2, h4]
          have e2 : p.cnt (fun j => (listed.setIfInBounds i true).getD j false) ops.size = p.cnt (fun _ => true) i + 1 := by
            have h1 := p.cnt_eq (S := fun j => (listed.setIfInBounds i true).getD j false) (T := fun j => decide (j < i + 1)) ops.size fun j hj hjc _ => by
              skip
              rw [hset]
              by_cases hji : j = i
              · subst hji; simp
              · rw [if_neg hji]
                have := nearC hic j hj hji (by simpa using hjc)
                by_cases q : j < i
                · simp [this.2 q]; omega
                · have q2 : ¬ j < i + 1 := by omega
                  simp only [q2, decide_false]
                  cases hl : listed.getD j false with
                  | false => rfl
                  | true => exact absurd (this.1 hl) q
            have h2 := p.cnt_below (S := fun j => decide (j < i + 1)) (i := i + 1) ops.size hin fun j h3 _ _ _ => by simp; omega
            have h4 := p.cnt_eq (S := fun j => decide (j < i + 1)) (T := fun _ => true) (i + 1) fun j hj _ _ => by simp [hj]
            rw [h1, h2, h4]
            simp [Plan.cnt, hic, hon]
          rw [e1, e2]
          exact (hp.chained i _ hoi hon hic).look hlook
        · have e2 : p.cnt (fun j => (listed.setIfInBounds i true).getD j false) ops.size = p.cnt (fun j => listed.getD j false) ops.size := p.cnt_eq _ fun j hj hjc _ => by
            skip
            rw [hset]
            by_cases hji : j = i
            · subst hji; exact absurd (by simpa using hjc) hic
            · rw [if_neg hji]
          rw [e2]
          refine (hp.free i _ hoi hon hic _ (cnt_le p _ _) fun i' hi' hic' hon' hw' => ?_).look hlook
          have hnl : listed.getD i' false = false := by
            cases hl : listed.getD i' false with
            | false => rfl
            | true =>
              have := waits_closed (S := fun j => listed.getD j false) hcl hw' hl
              rw [hun] at this; cases this
          have h1 := p.cnt_below (S := fun j => listed.getD j false) (i := i') ops.size (Nat.le_of_lt hi') fun j h3 h4 hjc _ => by
            rcases Nat.lt_or_eq_of_le h3 with h5 | h5
            · cases hl : listed.getD j false with
              | false => rfl
              | true =>
                have hw2 := orderly_spec ho h4 h5 (.inr (.inr ⟨by simpa using hjc, hic'⟩))
                have := waits_closed (S := fun j => listed.getD j false) hcl hw2 hl
                rw [hnl] at this; cases this
            · subst h5; exact hnl
          rw [h1]; exact cnt_le p _ _
      refine .inl (Oper.wp_mono ?_ (hA F g a w hS hE _))
      rintro a' w' ⟨v, x, σ', g', rfl, hg', hn, hS', hx, rfl, rfl⟩
      have hE' := hE.put hg' hn ops[i].dst hslot hx
      refine ih _ _ w' g' (by simpa using hs) hfuel hcl' (hg.trans (hg'.mono (Nat.le_trans hk0 (hp.next_le _)))) hS' ⟨hE'.defers, hE'.size, fun t => ?_⟩
      rw [← hput t]
      exact hE'.slot t

def forward (ops : Array Oper) : Bool := (List.range ops.size).all fun i => (dirs ops i).all fun j => decide (j < i)

theorem forward_full {ops : Array Oper} (hf : forward ops = true) (listed : Array Bool) (hs : listed.size = ops.size) (hr : Region.ready .any ops listed = []) : ∀ i, i < ops.size → listed.getD i false = true := by
  intro i
  induction i using Nat.strongRecOn with
  | _ i ih =>
    intro hi
    cases hl : listed.getD i false with
    | true => rfl
    | false =>
      exfalso
      have hoi : ops[i]? = some ops[i] := Array.getElem?_eq_getElem hi
      have hlt : i < listed.size := by omega
      have hmem : i ∈ Region.ready .any ops listed := by
        refine List.mem_filter.2 ⟨List.mem_range.2 hi, ?_⟩
        simp only [hoi, Option.map_some, Option.getD_some, Bool.and_eq_true, Bool.not_eq_true']
        refine ⟨?_, Array.all_eq_true'.2 fun e he => ?_⟩
        · simp only [Array.getD, hlt, dif_pos] at hl ⊢
          exact hl
        · cases hb : Region.binds .any e with
          | false => simp
          | true =>
            simp only [Bool.not_true, Bool.false_or]
            have hd : e.on ∈ dirs ops i := by
              unfold dirs
              rw [hoi]
              exact List.mem_filterMap.2 ⟨e, by simpa using he, by simp [hb]⟩
            have hlt' : e.on < i := by
              simp only [forward, List.all_eq_true, List.mem_range, decide_eq_true_eq] at hf
              exact hf i hi _ hd
            exact ih _ hlt' (by omega)
      rw [hr] at hmem
      cases hmem

/-- A region that draws its order. -/
theorem AWP.draw {P : Program} {N k0 : Nat} {id : Nat} {ops : Array Oper} {env : Env} {σ : Store} (hm : P.follows .mixedOrders = true) (p : Plan P N ops env) (hp : p.Ok σ) (ho : orderly ops p.chain = true) (hf : forward ops = true)
    {Q : Exit → Env → Store → Prop} (hQ : Q .normal (p.env (fun _ => true) ops.size) (p.sto (p.cnt (fun _ => true) ops.size))) : AWP P N k0 (.region id ops true) env σ Q := by
  intro F g a w hS hE hk
  refine wp_region_any hm ?_
  have h0 : ∀ i, (Array.replicate ops.size false).getD i false = false := fun i => by
    simp only [Array.getD_eq_getD_getElem?]
    cases h : (Array.replicate ops.size false)[i]? with
    | none => rfl
    | some b =>
      have := Array.getElem?_replicate (n := ops.size) (v := false) (i := i)
      rw [h] at this
      split at this
      · injection this
      · cases this
  have hc : p.cnt (fun i => (Array.replicate ops.size false).getD i false) ops.size = 0 := by
    have h1 := p.cnt_below (S := fun i => (Array.replicate ops.size false).getD i false) (i := 0) ops.size (Nat.zero_le _) fun j _ _ _ _ => h0 j
    rw [h1]; rfl
  have he : ∀ t, (p.env (fun i => (Array.replicate ops.size false).getD i false) ops.size).get t = env.get t := fun t => by
    have h1 := p.env_below (S := fun i => (Array.replicate ops.size false).getD i false) (t := t) (i := 0) ops.size (Nat.zero_le _) fun j _ _ _ => h0 j
    rw [h1]; rfl
  have hany := draw_any hp ho (Q := fun e s => (∀ t, e.get t = (p.env (fun _ => true) ops.size).get t) ∧ s = p.sto (p.cnt (fun _ => true) ops.size)) (fun e h => ⟨h, rfl⟩) k0 hk F g
    (fun listed hs hr _ => forward_full hf listed hs hr) ops.size (Array.replicate ops.size false) a { w with drawn := w.drawn + 1 } g (by simp) (by simp) (fun i hi => by rw [h0] at hi; cases hi) (.refl _ _)
    (by rw [hc, hp.sto0]; exact hS.drew) ⟨hE.defers, hE.size, fun t => by rw [he, hc, hp.sto0]; exact hE.slot t⟩
  have : ∀ (fuel : Nat) (listed : Array Bool) (a : Act) (w : World) (Q1 Q2 : Exit → Act → World → Prop), (∀ e a w, Q1 e a w → Q2 e a w) → wpAny P .any ops Q1 fuel listed a w → wpAny P .any ops Q2 fuel listed a w := by
    intro fuel
    induction fuel with
    | zero => exact fun listed a w Q1 Q2 hq h => ⟨h.1, hq _ _ _ h.2⟩
    | succ fuel ih =>
      intro listed a w Q1 Q2 hq h
      refine ⟨fun hr => hq _ _ _ (h.1 hr), fun i hi => ?_⟩
      have h2 := h.2 i hi
      unfold wpOp at h2 ⊢
      split at h2
      · exact ih _ _ _ _ _ hq h2
      · rename_i o ho'
        split at h2
        · rename_i hw
          rw [if_pos hw]
          rcases h2 with h2 | ⟨h3, h4⟩
          · exact .inl (Oper.wp_imp (fun a w => ih _ a w _ _ hq) hq h2)
          · exact .inr ⟨h3, LetsOut.imp hq h4⟩
        · rename_i hw
          rw [if_neg hw]
          exact ih _ _ _ _ _ hq h2
  refine this _ _ _ _ _ _ ?_ hany
  rintro e a' w' ⟨rfl, env', σ', g', ⟨h1, rfl⟩, h2, h3, h4, h5⟩
  exact ⟨_, _, g', hQ, h2, h3, h4, h5.defers, h5.size, fun t => by rw [← h1 t]; exact h5.slot t⟩
end
end Go.Proofs.Ytnanpamfdjnomaa.AL
