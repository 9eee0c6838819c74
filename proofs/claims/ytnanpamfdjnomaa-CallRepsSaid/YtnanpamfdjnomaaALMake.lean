/- AL: append of make, a list beside nil, an array that becomes a row. -/
import Derived.Test.YtnanpamfdjnomaaALDreg
import Derived.Lib.AppendZeros
namespace Go.Proofs.Ytnanpamfdjnomaa.AL
open Go Go.RowKit

theorem zeroCells_one (z : Value) (n : Nat) : Builtin.zeroCells #[z] n = Array.replicate n z := by
  apply Array.ext
  · simp [Builtin.zeroCells]
  · intro i h1 h2
    simp only [Builtin.zeroCells, List.size_toArray, List.length_cons, List.length_nil, Nat.zero_add, Nat.mul_one, Array.getElem_map, Array.getElem_replicate, Nat.mod_one]
    rfl

theorem AOpc.appMake {P : Program} {N : Nat} {env : Env} {σ : Store} {K : AV → Store → Prop} {x y : Operand} {t tn e : TypeId} {b : Nat} {z : Value} {kn k : IntKind} {n : Nat}
    (ht : tSl P t = some (e, 1, b)) (hn : tInt P tn = some kn) (hz : tZero P e = some [z]) (hx : evalA env x = .pv (.val (.slice none 0 0))) (hy : evalA env y = .int k n)
    (h0 : 0 < n) (h48 : n * b ≤ 281474976710656) (h63 : n ≤ maxLen)
    (hK : ∀ cap, n ≤ cap → cap ≤ maxLen → K (.sl σ.next 0 n cap) (σ.newObj (List.replicate cap (.pv (.val z))))) :
    AOpc P N (.call { callee := .builtin .append, args := #[x, y], argTypes := #[t, tn] }) env σ K := by
  intro o ho F g a w hS hE Q
  obtain ⟨hu, i, z', hi, hz', hzs, hpos, he, rfl⟩ := tSl_spec ht
  have htn : P.underlying tn = some (.int kn) := by
    unfold tInt at hn
    split at hn <;> simp_all
  have hzc : z'.cells = #[z] := by
    simp only [tZero, hi, Option.bind_some, hz', Option.map_some, Option.some.injEq] at hz
    apply Array.ext'; simpa using hz
  have h1 := hE.eval x
  rw [hx] at h1
  have h1 := h1.val_eq
  have h2 := hE.eval y
  rw [hy] at h2
  have h2 := h2.val_eq
  have hr := Lib.run_append_nil_zeros (P := P) w t tn o.type e i z' k kn hu htn hi hz' n h0 hpos (by simp [maxLen] at h63; omega) h48
  have hge := grownCap_ge w n 0 e
  have hle := grownCap_le_maxLen w n 0 e h63
  have hN := hS.drew.newObj (Builtin.zeroCells z'.cells n ++ Builtin.zeroCells z'.cells (grownCap w n 0 e - n)) e (List.replicate (grownCap w n 0 e) (.pv (.val z))) (by simp [hzc, zeroCells_one]; omega) (fun j x hx => by
    have hj := getElem?_lt hx
    simp only [List.length_replicate] at hj
    rw [List.getElem?_replicate, if_pos hj] at hx
    injection hx with hx; subst hx
    have : (Builtin.zeroCells z'.cells n ++ Builtin.zeroCells z'.cells (grownCap w n 0 e - n)).getD j undef = z := by
      rw [hzc, zeroCells_one, zeroCells_one, Array.replicate_append_replicate]
      simp [Array.getD]; omega
    rw [this]
    exact .pv (.val _))
  have hv := VR.sl (g := g.named σ.next w.heap.size 0 false) (k := σ.next + 1) (n := σ.next) (off := 0) (len := n) (cap := grownCap w n 0 e) (by omega)
  have hx : (execOp a.eval o).run P w = .ok (.value (.slice (some ⟨w.heap.size, 0, none⟩) n (grownCap w n 0 e))) (w.drew.alloc (.cells (Builtin.zeroCells z'.cells n ++ Builtin.zeroCells z'.cells (grownCap w n 0 e - n)) e)) := by
    unfold execOp
    simp [ho, resolve, invoke, builtin, h1, h2, hr]
  simp only [Oper.wp, hx, Oper.upon]
  refine ⟨_, _, _, _, rfl, Ghost.le_named _ _ _ _ _, Nat.le_succ _, hN, ?_, hK _ hge hle⟩
  simpa [Ghost.named, upd, Store.newObj] using hv

/-- A list beside nil: nobody says whether one that is empty is nil. -/
theorem AOpc.listNil {P : Program} {N : Nat} {env : Env} {σ : Store} {K : AV → Store → Prop} {x : Operand} {t ty : TypeId} {e : TypeId} {es es' b : Nat} {xs : List (List PV)}
    (ht : tSl P t = some (e, es, b)) (hx : (evalA env x).list? es' = some xs) (hK : ∀ q : Bool, (q = true → xs = []) → K (.bool q) σ) :
    AOpc P N (.binOp .eql t x (.const (.slice none 0 0)) ty) env σ K := by
  intro o ho F g a w hS hE Q
  obtain ⟨hu, -⟩ := tSl_spec ht
  have h1 := (hE.eval x).list hx
  have hc : a.eval (.const (.slice none 0 0)) = .slice none 0 0 := rfl
  have hrun : ∃ q : Bool, (execOp a.eval o).run P w = .ok (.value (.bool q)) w ∧ (q = true → xs = []) := by
    generalize hev : a.eval x = v at h1
    cases h1 with
    | nil =>
      refine ⟨true, ?_, fun _ => rfl⟩
      unfold execOp
      rw [ho]
      have he : (Op.equal t (.slice none 0 0) (.slice none 0 0)).run P w = .ok true w := by
        show (Op.equalIn (9999 + 1) _ _ _).run P w = _
        rw [Op.equalIn]; simp [run_underlying hu]
      simp [hev, hc, he, eqGuard, binOp]
    | emp =>
      refine ⟨false, ?_, fun h => by cases h⟩
      unfold execOp
      rw [ho]
      have he : ∀ A n c, (Op.equal t (.slice (some A) n c) (.slice none 0 0)).run P w = .ok false w := fun A n c => by
        show (Op.equalIn (9999 + 1) _ _ _).run P w = _
        rw [Op.equalIn]; simp [run_underlying hu]
      simp [hev, hc, he, eqGuard, binOp]
    | lst =>
      refine ⟨false, ?_, fun h => by cases h⟩
      unfold execOp
      rw [ho]
      have he : ∀ A n c, (Op.equal t (.slice (some A) n c) (.slice none 0 0)).run P w = .ok false w := fun A n c => by
        show (Op.equalIn (9999 + 1) _ _ _).run P w = _
        rw [Op.equalIn]; simp [run_underlying hu]
      simp [hev, hc, he, eqGuard, binOp]
  obtain ⟨q, hr, hq⟩ := hrun
  simp only [Oper.wp, hr, Oper.upon]
  exact ⟨_, .bool q, σ, g, rfl, .refl _ _, Nat.le_refl _, hS, .pv (.val _), hK q hq⟩

/-- An array of which nothing was read becomes a row's room. -/
theorem rowify {F : Base} {g : Ghost} {σ : Store} {w : World} (h : RelS F g σ w) {n : Nat} {cs : List AV} (hn : σ.objs n = some cs) (e : TypeId) (es cap : Nat) (hc : cs.length = cap * es) (hcap : cap ≤ maxLen) :
    ∃ g', Ghost.le σ.next g g' ∧ RelS F g' ((σ.dropObj n).newTok e es 0) w ∧ ∀ v, VR g σ.next (.sl n 0 0 cap) v → VR g' (σ.next + 1) (.row σ.next es []) v := by
  obtain ⟨h1, h2, h3, c, e', h4, h5, h6⟩ := h.obj n _ hn
  have hD := h.dropObj n
  have hT := hD.newTok (g.φ n) c e e' es 0 cap h4 h2 (by omega) (Nat.zero_le _) hcap (fun o _ => h3 o)
    (fun m hm => by
      simp only [Store.dropObj] at hm
      by_cases q : m = n
      · simp [q] at hm
      · rw [if_neg q] at hm; exact fun he => q (h.inj m n hm (by simp [hn]) he))
    (fun t ht hp => fun he => h.apart n t (by simp [hn]) ht hp he.symm)
  refine ⟨_, Ghost.le_named _ _ (g.φ n) cap false, hT, fun v hv => ?_⟩
  cases hv with
  | sl hk =>
    have := VR.row (g := g.named σ.next (g.φ n) cap false) (k := σ.next + 1) (t := σ.next) (es := es) (xs := []) (by omega) (by simp [Ghost.named, upd])
      (by
        simp only [Ghost.named, upd, if_true]
        exact (Flat.nil _ _).vrp (Nat.zero_le _) (fun j u hj => by simp at hj))
    simpa [Ghost.named, upd] using this

theorem WeakV.rowify {k0 : Nat} {σ : Store} {n cap : Nat} {cs : List AV} (hn : σ.objs n = some cs) (e : TypeId) (es : Nat) (hc : cs.length = cap * es) (hcap : cap ≤ maxLen) :
    WeakV k0 (.sl n 0 0 cap) σ (.row σ.next es []) ((σ.dropObj n).newTok e es 0) := by
  intro F g w v hS hv hk
  obtain ⟨g', h1, h2, h3⟩ := Go.Proofs.Ytnanpamfdjnomaa.AL.rowify hS hn e es cap hc hcap
  refine ⟨?_, g', h1.mono hk, h2, h3 v hv⟩
  show k0 ≤ σ.next + 1
  omega

theorem Weak.rowify {N k0 : Nat} {env : Env} {σ : Store} (s : Nat) {n cap : Nat} {cs : List AV} (hs : env.get s = .sl n 0 0 cap) (hn : σ.objs n = some cs) (e : TypeId) (es : Nat) (hc : cs.length = cap * es) (hcap : cap ≤ maxLen) :
    Weak N k0 env σ ((s, .row σ.next es []) :: env) ((σ.dropObj n).newTok e es 0) := by
  intro F g a w hS hE hk
  obtain ⟨g', h1, h2, h3⟩ := Go.Proofs.Ytnanpamfdjnomaa.AL.rowify hS hn e es cap hc hcap
  refine ⟨by show k0 ≤ σ.next + 1; omega, g', h1.mono hk, h2, hE.defers, hE.size, fun t => ?_⟩
  simp only [Env.get]
  by_cases q : s = t
  · subst q
    rw [if_pos rfl]
    have := hE.slot s
    rw [hs] at this
    exact h3 _ this
  · rw [if_neg q]
    exact (hE.slot t).mono h1 (Nat.le_succ _)

section
variable {P : Program} {N k0 : Nat} {env : Env} {σ : Store} {Q : Exit → Env → Store → Prop}
theorem arun_skip : arun P N k0 .skip env σ Q = Q .normal env σ := id rfl
theorem arun_reg (os : List GOp) : arun P N k0 (.reg os) env σ Q = arops P N os env σ (Q .normal) := id rfl
theorem arun_seq (x y : AC) : arun P N k0 (.seq x y) env σ Q = arun P N k0 x env σ (thenA (fun env' σ' => arun P N k0 y env' σ' Q) Q) := id rfl
theorem arun_block (id' : Nat) (x : AC) : arun P N k0 (.block id' x) env σ Q = arun P N k0 x env σ (blkA id' Q) := id rfl
theorem arun_loop (x : AC) : arun P N k0 (.loop x) env σ Q = AWPc P N k0 (.loop x) env σ Q := id rfl
theorem arun_exit (id' : Nat) : arun P N k0 (.exit id') env σ Q = Q (.exit id') env σ := id rfl
theorem arun_ret : arun P N k0 .ret env σ Q = Q .ret env σ := id rfl
theorem arun_raw (c : Code) : arun P N k0 (.raw c) env σ Q = AWP P N k0 c env σ Q := id rfl
/-- A choice of which the answer is known. -/
theorem arun_if {c : Operand} {x y : AC} (b : Bool) (h : evalA env c = .bool b) (k : arun P N k0 (if b then x else y) env σ Q) : arun P N k0 (.cond c x y) env σ Q := by
  unfold arun
  rw [h]
  cases b
  · exact ⟨fun h => (by cases h), fun _ => k⟩
  · exact ⟨fun _ => k, fun h => (by cases h)⟩
/-- A choice of which nobody knows the answer. -/
theorem arun_either {c : Operand} {x y : AC} (b : Bool) (h : evalA env c = .bool b) (k : b = true → arun P N k0 x env σ Q) (k' : b = false → arun P N k0 y env σ Q) : arun P N k0 (.cond c x y) env σ Q := by
  unfold arun
  rw [h]
  exact ⟨k, k'⟩
end
end Go.Proofs.Ytnanpamfdjnomaa.AL
namespace Go.Proofs.Ytnanpamfdjnomaa.AL
open Go Go.RowKit
/-- What is told of a value, told less. -/
def Le (x y : AV) : Prop := ∀ g k v, VR g k x v → VR g k y v
theorem Le.refl (x : AV) : Le x x := fun _ _ _ h => h
theorem Le.list {es : Nat} {x : AV} {xs : List (List PV)} (hx : x.list? es = some xs) : Le x (.pv (.lst es xs)) := fun _ _ _ h => .pv (h.list hx)
theorem Le.any (x : AV) : Le x .any := fun _ _ v _ => .any v
theorem Le.agg {cs ds : List AV} (hl : cs.length = ds.length) (h : ∀ (i : Nat) (x y : AV), cs[i]? = some x → ds[i]? = some y → Le x y) : Le (.agg cs) (.agg ds) := fun g k v hv => by
  cases hv with
  | agg vs hs hx =>
    refine .agg vs (by omega) fun j y hy => ?_
    have hj := getElem?_lt hy
    have hc : cs[j]? = some cs[j] := by simp
    exact h j _ y hc hy g k _ (hx j _ hc)
theorem Le.agg6 {a b c d e f a' b' c' d' e' f' : AV} (h1 : Le a a') (h2 : Le b b') (h3 : Le c c') (h4 : Le d d') (h5 : Le e e') (h6 : Le f f') : Le (.agg [a, b, c, d, e, f]) (.agg [a', b', c', d', e', f']) := by
  refine Le.agg rfl fun i x y hx hy => ?_
  match i, hx, hy with
  | 0, hx, hy => simp at hx hy; subst hx; subst hy; exact h1
  | 1, hx, hy => simp at hx hy; subst hx; subst hy; exact h2
  | 2, hx, hy => simp at hx hy; subst hx; subst hy; exact h3
  | 3, hx, hy => simp at hx hy; subst hx; subst hy; exact h4
  | 4, hx, hy => simp at hx hy; subst hx; subst hy; exact h5
  | 5, hx, hy => simp at hx hy; subst hx; subst hy; exact h6
  | n + 6, hx, hy => simp at hx

theorem ACalls.le1 {P : Program} {f : FuncId} {x y : AV} {σ : Store} {R : AV → Store → Prop} (hx : Le x y) (h : ACalls P f [y] σ R) : ACalls P f [x] σ R := by
  intro F g w vals hS hs hv
  refine h F g w vals hS hs fun j z hz => ?_
  match j, hz with
  | 0, hz => simp at hz; subst hz; exact hx _ _ _ (hv 0 x rfl)
  | n + 1, hz => simp at hz
theorem ACalls.le2 {P : Program} {f : FuncId} {x y x' y' : AV} {σ : Store} {R : AV → Store → Prop} (hx : Le x x') (hy : Le y y') (h : ACalls P f [x', y'] σ R) : ACalls P f [x, y] σ R := by
  intro F g w vals hS hs hv
  refine h F g w vals hS hs fun j z hz => ?_
  match j, hz with
  | 0, hz => simp at hz; subst hz; exact hx _ _ _ (hv 0 x rfl)
  | 1, hz => simp at hz; subst hz; exact hy _ _ _ (hv 1 y rfl)
  | n + 2, hz => simp at hz

theorem setObj_newObj (σ : Store) (cs ds : List AV) : (σ.newObj cs).setObj σ.next ds = σ.newObj ds := by
  unfold Store.newObj Store.setObj
  simp only [Store.mk.injEq, and_true]
  funext m
  by_cases q : m = σ.next <;> simp [q]
end Go.Proofs.Ytnanpamfdjnomaa.AL
namespace Go.Proofs.Ytnanpamfdjnomaa.AL
open Go Go.RowKit
/-! ### A region that draws, operation by operation -/
def loadV (P : Program) (σ : Store) (op : Op) (env : Env) : Option AV :=
  match op with
  | .load t a => match tSA P t with
    | some s => readA σ s (evalA env a)
    | none => none
  | _ => none
theorem loadA_V {P : Program} {σ : Store} {op : Op} {env : Env} {x : AV} : loadA P σ op env x ↔ loadV P σ op env = some x := by
  unfold loadA loadV
  cases op <;> simp
  split <;> simp_all
section
variable {P : Program} {N : Nat} {ops : Array Oper} {chain : List Nat} {os : List Oper} {i : Nat} {env : Env} {σ : Store} {lds : List (Op × Env × AV)} {prs : List Store} {K : Env → Store → Prop}
  {dst : Option Nat} {op : Op} {ty : TypeId} {pos : String} {after : Array Edge}
theorem dreg_nil : dreg P N ops chain [] i env σ lds prs K = K env σ := by simp [dreg]
theorem dreg_free (hc : chain.contains i = false) (hl : isLoad op = false) (hf : isFn op = false) :
    dreg P N ops chain ({ dst := dst, op := op, type := ty, pos := pos, after := after, guard := none } :: os) i env σ lds prs K =
      (dOk N dst = true ∧ storeless op = true ∧ match exA P op (look op env) void with
        | some (c, x, _) => c ∧ dreg P N ops chain os (i + 1) (env.put dst x) σ lds prs K
        | none => False) := by
  simp only [dreg, guardA, hc, hl, hf]
  refine propext ⟨fun h => ⟨h.1, (h.2.2 trivial).1, (h.2.2 trivial).2⟩, fun h => ⟨h.1, fun h' => (by cases h'), fun _ => ⟨h.2.1, h.2.2⟩⟩⟩
theorem dreg_load (hc : chain.contains i = false) (hl : isLoad op = true) :
    dreg P N ops chain ({ dst := dst, op := op, type := ty, pos := pos, after := after, guard := none } :: os) i env σ lds prs K =
      (dOk N dst = true ∧ match loadV P σ op (look op env) with
        | some x => (∀ τ ∈ prs, loadV P τ op (look op env) = some x) ∧ dreg P N ops chain os (i + 1) (env.put dst x) σ ((op, look op env, x) :: lds) prs K
        | none => False) := by
  simp only [dreg, guardA, hc, hl, loadA_V]
  cases loadV P σ op (look op env) <;> simp
theorem dreg_chain (hc : chain.contains i = true) :
    dreg P N ops chain ({ dst := dst, op := op, type := ty, pos := pos, after := after, guard := none } :: os) i env σ lds prs K =
      (dOk N dst = true ∧ match exA P op (look op env) σ with
        | some (c, x, σ') => c ∧ σ.next ≤ σ'.next ∧ (chain.contains (i + 1000) = true ∨ ∀ l ∈ lds, loadV P σ' l.1 l.2.1 = some l.2.2) ∧ dreg P N ops chain os (i + 1) (env.put dst x) σ' (if chain.contains (i + 1000) = true then [] else lds) (σ :: prs) K
        | none => ∃ x σ', aop P N op (look op env) σ (fun y τ => y = x ∧ τ = σ') ∧ σ.next ≤ σ'.next ∧ (chain.contains (i + 1000) = true ∨ ∀ l ∈ lds, loadA P σ' l.1 l.2.1 l.2.2) ∧ dreg P N ops chain os (i + 1) (env.put dst x) σ' (if chain.contains (i + 1000) = true then [] else lds) (σ :: prs) K) := by
  simp only [dreg, guardA, hc, loadA_V]
  simp only [true_implies, Bool.true_eq_false, false_implies, true_and, if_true, eq_self]
  cases he : exA P op (look op env) σ with
  | none => rfl
  | some q =>
    obtain ⟨c, x, σ'⟩ := q
    dsimp only
    simp only [aop, he]
    refine propext ⟨?_, ?_⟩
    · rintro ⟨h0, x', τ, ⟨hc', rfl, rfl⟩, h⟩
      exact ⟨h0, hc', h⟩
    · rintro ⟨h0, hc', h⟩
      exact ⟨h0, x, σ', ⟨hc', rfl, rfl⟩, h⟩
/-- A call that nothing turns. -/
theorem dreg_fn {f : FuncId} {args : Array Operand} {ts : Array TypeId} {as : List AV} {x : AV} (hcal : callable P f = true) (hx : ∀ τ, ACalls P f as τ (fun y τ' => y = x ∧ τ' = τ))
    (hargs : args.toList.map (evalA (lk env args.toList)) = as) (hc : chain.contains i = false) (hd : dOk N dst = true)
    (k : dreg P N ops chain os (i + 1) (env.put dst x) σ lds prs K) :
    dreg P N ops chain ({ dst := dst, op := .call { callee := .value (.func f), args := args, argTypes := ts }, type := ty, pos := pos, after := after, guard := none } :: os) i env σ lds prs K := by
  simp only [dreg, guardA, hc, isLoad, isFn]
  refine ⟨hd, (fun h => (by cases h)), fun _ => ?_⟩
  rw [if_neg (by decide), if_neg (by decide), if_pos trivial]
  refine ⟨x, fun τ => AOpc.of_aop ?_, k⟩
  unfold aop
  simp only [exA]
  refine ⟨hcal, ?_⟩
  rw [look_call, hargs]
  exact hx τ
end
end Go.Proofs.Ytnanpamfdjnomaa.AL
namespace Go.Proofs.Ytnanpamfdjnomaa.AL
open Go Go.RowKit
/-- A region that draws, none of whose operations hangs on a guard. -/
theorem awpDreg {P : Program} {N k0 : Nat} {id : Nat} {ops : Array Oper} {env : Env} {σ : Store} (hm : P.follows .mixedOrders = true) (chain : List Nat) (ho : orderly ops chain = true) (hf : forward ops = true)
    {Q : Exit → Env → Store → Prop} (h : ∀ ops' : Array Oper, dreg P N ops' chain ops.toList 0 env σ [] [] (Q .normal)) : AWP P N k0 (.region id ops true) env σ Q :=
  AWP.dreg hm chain ho hf (h ops)
end Go.Proofs.Ytnanpamfdjnomaa.AL
namespace Go.Proofs.Ytnanpamfdjnomaa.AL
open Go Go.RowKit
theorem isFn_move (x : Operand) : isFn (.move x) = false := id rfl
theorem isLoad_move (x : Operand) : isLoad (.move x) = false := id rfl
theorem isFn_assign (x : Operand) : isFn (.assign x) = false := id rfl
theorem isLoad_assign (x : Operand) : isLoad (.assign x) = false := id rfl
theorem isFn_pick (a b c : Operand) : isFn (.pick a b c) = false := id rfl
theorem isLoad_pick (a b c : Operand) : isLoad (.pick a b c) = false := id rfl
theorem isFn_alloc (t : TypeId) : isFn (.alloc t) = false := id rfl
theorem isLoad_alloc (t : TypeId) : isLoad (.alloc t) = false := id rfl
theorem isFn_box (t : TypeId) (x : Operand) : isFn (.box t x) = false := id rfl
theorem isLoad_box (t : TypeId) (x : Operand) : isLoad (.box t x) = false := id rfl
theorem isFn_build (t : TypeId) (ps : Array (Nat × Operand)) : isFn (.build t ps) = false := id rfl
theorem isLoad_build (t : TypeId) (ps : Array (Nat × Operand)) : isLoad (.build t ps) = false := id rfl
theorem isFn_buildSlice (t n : Nat) (ps : Array (Nat × Operand)) : isFn (.buildSlice t n ps) = false := id rfl
theorem isLoad_buildSlice (t n : Nat) (ps : Array (Nat × Operand)) : isLoad (.buildSlice t n ps) = false := id rfl
theorem isFn_load (t : TypeId) (x : Operand) : isFn (.load t x) = false := id rfl
theorem isLoad_load (t : TypeId) (x : Operand) : isLoad (.load t x) = true := id rfl
theorem isFn_store (t : TypeId) (x y : Operand) : isFn (.store t x y) = false := id rfl
theorem isLoad_store (t : TypeId) (x y : Operand) : isLoad (.store t x y) = false := id rfl
theorem isFn_nilCheck (x : Operand) : isFn (.nilCheck x) = false := id rfl
theorem isLoad_nilCheck (x : Operand) : isLoad (.nilCheck x) = false := id rfl
theorem isFn_binOp (o : BinOp) (t : TypeId) (x y : Operand) (u : TypeId) : isFn (.binOp o t x y u) = false := id rfl
theorem isLoad_binOp (o : BinOp) (t : TypeId) (x y : Operand) (u : TypeId) : isLoad (.binOp o t x y u) = false := id rfl
theorem isFn_unOp (o : UnOp) (t : TypeId) (x : Operand) : isFn (.unOp o t x) = false := id rfl
theorem isLoad_unOp (o : UnOp) (t : TypeId) (x : Operand) : isLoad (.unOp o t x) = false := id rfl
theorem isFn_convert (s d : TypeId) (x : Operand) : isFn (.convert s d x) = false := id rfl
theorem isLoad_convert (s d : TypeId) (x : Operand) : isLoad (.convert s d x) = false := id rfl
theorem isFn_fieldAddr (t : TypeId) (x : Operand) (f : Nat) : isFn (.fieldAddr t x f) = false := id rfl
theorem isLoad_fieldAddr (t : TypeId) (x : Operand) (f : Nat) : isLoad (.fieldAddr t x f) = false := id rfl
theorem isFn_indexAddr (t : TypeId) (x i : Operand) : isFn (.indexAddr t x i) = false := id rfl
theorem isLoad_indexAddr (t : TypeId) (x i : Operand) : isLoad (.indexAddr t x i) = false := id rfl
theorem isFn_extract (x : Operand) (i : Nat) : isFn (.extract x i) = false := id rfl
theorem isLoad_extract (x : Operand) (i : Nat) : isLoad (.extract x i) = false := id rfl
theorem isFn_makeSlice (t : TypeId) (x y : Operand) : isFn (.makeSlice t x y) = false := id rfl
theorem isLoad_makeSlice (t : TypeId) (x y : Operand) : isLoad (.makeSlice t x y) = false := id rfl
theorem isFn_slice (t : TypeId) (x : Operand) (lo hi m : Option Operand) : isFn (.slice t x lo hi m) = false := id rfl
theorem isLoad_slice (t : TypeId) (x : Operand) (lo hi m : Option Operand) : isLoad (.slice t x lo hi m) = false := id rfl
theorem isFn_len (args : Array Operand) (ts : Array TypeId) : isFn (.call { callee := .builtin .len, args := args, argTypes := ts }) = false := id rfl
theorem isFn_cap (args : Array Operand) (ts : Array TypeId) : isFn (.call { callee := .builtin .cap, args := args, argTypes := ts }) = false := id rfl
theorem isFn_min (args : Array Operand) (ts : Array TypeId) : isFn (.call { callee := .builtin .min, args := args, argTypes := ts }) = false := id rfl
theorem isFn_max (args : Array Operand) (ts : Array TypeId) : isFn (.call { callee := .builtin .max, args := args, argTypes := ts }) = false := id rfl
theorem isFn_append (args : Array Operand) (ts : Array TypeId) : isFn (.call { callee := .builtin .append, args := args, argTypes := ts }) = true := id rfl
theorem isLoad_builtin (b : Builtin) (args : Array Operand) (ts : Array TypeId) : isLoad (.call { callee := .builtin b, args := args, argTypes := ts }) = false := id rfl
theorem isFn_fn (f : FuncId) (args : Array Operand) (ts : Array TypeId) : isFn (.call { callee := .value (.func f), args := args, argTypes := ts }) = true := id rfl
theorem isLoad_fn (f : FuncId) (args : Array Operand) (ts : Array TypeId) : isLoad (.call { callee := .value (.func f), args := args, argTypes := ts }) = false := id rfl
end Go.Proofs.Ytnanpamfdjnomaa.AL
namespace Go.Proofs.Ytnanpamfdjnomaa.AL
open Go Go.RowKit
section
variable {P : Program} {N : Nat} {ops : Array Oper} {chain : List Nat} {os : List Oper} {i : Nat} {env : Env} {σ : Store} {lds : List (Op × Env × AV)} {prs : List Store} {K : Env → Store → Prop}
  {dst : Option Nat} {op : Op} {ty : TypeId} {pos : String} {after : Array Edge}
/-- A call, held. -/
def dregFn (P : Program) (N : Nat) (ops : Array Oper) (chain : List Nat) (o : Oper) (os : List Oper) (i : Nat) (env : Env) (σ : Store) (lds : List (Op × Env × AV)) (prs : List Store) (K : Env → Store → Prop) : Prop :=
  dreg P N ops chain (o :: os) i env σ lds prs K
theorem dreg_cons :
    dreg P N ops chain ({ dst := dst, op := op, type := ty, pos := pos, after := after, guard := none } :: os) i env σ lds prs K =
      (if chain.contains i = true then (dOk N dst = true ∧ match exA P op (look op env) σ with
        | some (c, x, σ') => c ∧ σ.next ≤ σ'.next ∧ (chain.contains (i + 1000) = true ∨ ∀ l ∈ lds, loadV P σ' l.1 l.2.1 = some l.2.2) ∧ dreg P N ops chain os (i + 1) (env.put dst x) σ' (if chain.contains (i + 1000) = true then [] else lds) (σ :: prs) K
        | none => ∃ x σ', aop P N op (look op env) σ (fun y τ => y = x ∧ τ = σ') ∧ σ.next ≤ σ'.next ∧ (chain.contains (i + 1000) = true ∨ ∀ l ∈ lds, loadA P σ' l.1 l.2.1 l.2.2) ∧ dreg P N ops chain os (i + 1) (env.put dst x) σ' (if chain.contains (i + 1000) = true then [] else lds) (σ :: prs) K)
      else if isLoad op = true then (dOk N dst = true ∧ match loadV P σ op (look op env) with
        | some x => (∀ τ ∈ prs, loadV P τ op (look op env) = some x) ∧ dreg P N ops chain os (i + 1) (env.put dst x) σ ((op, look op env, x) :: lds) prs K
        | none => False)
      else if isFn op = true then dregFn P N ops chain { dst := dst, op := op, type := ty, pos := pos, after := after, guard := none } os i env σ lds prs K
      else (dOk N dst = true ∧ storeless op = true ∧ match exA P op (look op env) void with
        | some (c, x, _) => c ∧ dreg P N ops chain os (i + 1) (env.put dst x) σ lds prs K
        | none => False)) := by
  cases hc : chain.contains i with
  | true => rw [if_pos rfl]; exact dreg_chain hc
  | false =>
    rw [if_neg (by decide)]
    cases hl : isLoad op with
    | true => rw [if_pos rfl]; exact dreg_load hc hl
    | false =>
      rw [if_neg (by decide)]
      cases hf : isFn op with
      | true => rw [if_pos rfl]; rfl
      | false => rw [if_neg (by decide)]; exact dreg_free hc hl hf
theorem dregFn_fn {f : FuncId} {args : Array Operand} {ts : Array TypeId} {as : List AV} {x : AV} (hcal : callable P f = true) (hx : ∀ τ, ACalls P f as τ (fun y τ' => y = x ∧ τ' = τ))
    (hargs : args.toList.map (evalA (lk env args.toList)) = as) (hc : chain.contains i = false) (hd : dOk N dst = true)
    (k : dreg P N ops chain os (i + 1) (env.put dst x) σ lds prs K) :
    dregFn P N ops chain { dst := dst, op := .call { callee := .value (.func f), args := args, argTypes := ts }, type := ty, pos := pos, after := after, guard := none } os i env σ lds prs K :=
  dreg_fn hcal hx hargs hc hd k
end
end Go.Proofs.Ytnanpamfdjnomaa.AL
namespace Go.Proofs.Ytnanpamfdjnomaa.AL
open Go Go.RowKit
theorem LeR.of_le {k : Nat} {ts : List Nat} {x y : AV} (h : Le x y) (hy : AV.Lt k y) : LeR k ts x y := fun g m v hv => LeR.same hy g m v (h g m v hv)
end Go.Proofs.Ytnanpamfdjnomaa.AL
namespace Go.Proofs.Ytnanpamfdjnomaa.AL
open Go Go.RowKit
section
variable {P : Program} {N k0 : Nat} {env : Env} {σ : Store}
theorem arun_cond {c : Operand} {x y : AC} {Q : Exit → Env → Store → Prop} : arun P N k0 (.cond c x y) env σ Q =
    (match evalA env c with
    | .pv (.val (.bool b)) => if b = true then arun P N k0 x env σ Q else arun P N k0 y env σ Q
    | _ => False) := by
  conv => lhs; unfold arun
  generalize evalA env c = v
  split
  · rename_i b
    cases b <;> simp
  · rename_i h
    split
    · exact (h _ rfl).elim
    · rfl
theorem arops_nil {K : Env → Store → Prop} : arops P N [] env σ K = K env σ := id rfl
theorem arops_plain {d : Option Nat} {op : Op} {os : List GOp} {K : Env → Store → Prop} : arops P N (⟨none, d, op⟩ :: os) env σ K = (dOk N d = true ∧ aop P N op env σ (fun x σ' => arops P N os (env.put d x) σ' K)) := id rfl
theorem arops_guard {t : Nat} {want : Bool} {d : Option Nat} {op : Op} {os : List GOp} {K : Env → Store → Prop} : arops P N (⟨some (t, want), d, op⟩ :: os) env σ K =
    (match env.get t with
    | .pv (.val (.bool b)) => dOk N d = true ∧ (if b = want then aop P N op env σ (fun x σ' => arops P N os (env.put d x) σ' K) else arops P N os (env.put d .any) σ K)
    | _ => False) := by
  conv => lhs; unfold arops
  generalize env.get t = v
  split
  · rename_i b
    cases b <;> cases want <;> simp
  · rename_i h
    split
    · exact (h _ rfl).elim
    · rfl
end
end Go.Proofs.Ytnanpamfdjnomaa.AL
namespace Go.Proofs.Ytnanpamfdjnomaa.AL
open Go Go.RowKit
/-! ### What waits, out of simp's sight -/
inductive Wit {α : Sort _} (a : α) : Type where
  | mk : Wit a
def ACallsH (P : Program) (f : FuncId) (args : List AV) (σ : Store) (K : AV → Store → Prop) (_ : Wit K) : Prop := ACalls P f args σ K
def AOpcH (P : Program) (N : Nat) (op : Op) (env : Env) (σ : Store) (K : AV → Store → Prop) (_ : Wit K) : Prop := AOpc P N op env σ K
def AWPcH (P : Program) (N k0 : Nat) (x : AC) (env : Env) (σ : Store) (Q : Exit → Env → Store → Prop) (_ : Wit Q) : Prop := AWPc P N k0 x env σ Q
def AWPH (P : Program) (N k0 : Nat) (c : Code) (env : Env) (σ : Store) (Q : Exit → Env → Store → Prop) (_ : Wit Q) : Prop := AWP P N k0 c env σ Q
section
variable {P : Program} {N k0 : Nat} {env : Env} {σ : Store}
theorem aop_h {op : Op} {K : AV → Store → Prop} : aop P N op env σ K =
    (match exA P op env σ with
    | some (c, x, σ') => c ∧ K x σ'
    | none => match op with
      | .call { callee := .value (.func f), args, .. } => callable P f = true ∧ ACallsH P f (args.toList.map (evalA env)) σ K .mk
      | _ => AOpcH P N op env σ K .mk) := id rfl
theorem arun_loopH (x : AC) {Q : Exit → Env → Store → Prop} : arun P N k0 (.loop x) env σ Q = AWPcH P N k0 (.loop x) env σ Q .mk := id rfl
theorem arun_rawH (c : Code) {Q : Exit → Env → Store → Prop} : arun P N k0 (.raw c) env σ Q = AWPH P N k0 c env σ Q .mk := id rfl
end
end Go.Proofs.Ytnanpamfdjnomaa.AL
namespace Go.Proofs.Ytnanpamfdjnomaa.AL
open Go Go.RowKit
theorem Le.tup3 {a b c a' b' c' : AV} (h1 : Le a a') (h2 : Le b b') (h3 : Le c c') : Le (.tup [a, b, c]) (.tup [a', b', c']) := fun g k v hv => by
  cases hv with
  | tup vs hs hx =>
    refine .tup vs (by simpa using hs) fun j y hy => ?_
    match j, hy with
    | 0, hy => simp at hy; subst hy; exact h1 _ _ _ (hx 0 a rfl)
    | 1, hy => simp at hy; subst hy; exact h2 _ _ _ (hx 1 b rfl)
    | 2, hy => simp at hy; subst hy; exact h3 _ _ _ (hx 2 c rfl)
    | n + 3, hy => simp at hy
end Go.Proofs.Ytnanpamfdjnomaa.AL
namespace Go.Proofs.Ytnanpamfdjnomaa.AL
open Go Go.RowKit
/-! ### Cuts -/
theorem AWPc.weak {P : Program} {N k0 : Nat} {x : AC} {env env' : Env} {σ σ' : Store} {Q : Exit → Env → Store → Prop} (hw : Weak N k0 env σ env' σ') (h : AWPc P N k0 x env' σ' Q) : AWPc P N k0 x env σ Q :=
  fun c hc => AWP.weak hw (h c hc)
theorem AWPc.mono {P : Program} {N k0 : Nat} {x : AC} {env : Env} {σ : Store} {Q Q' : Exit → Env → Store → Prop} (h : AWPc P N k0 x env σ Q) (hq : ∀ e env σ, Q e env σ → Q' e env σ) : AWPc P N k0 x env σ Q' :=
  fun c hc => (h c hc).mono hq
theorem AWPc.seq {P : Program} {N k0 : Nat} {x y : AC} {env : Env} {σ : Store} {Q : Exit → Env → Store → Prop}
    (h : AWPc P N k0 x env σ (thenA (fun env' σ' => AWPc P N k0 y env' σ' Q) Q)) : AWPc P N k0 (.seq x y) env σ Q := by
  intro c hc
  cases c with
  | seq a b =>
    simp only [comp] at hc
    injection hc with h1 h2
    refine AWP.seq ((h a h1).mono ?_)
    intro e env' σ' h'
    cases e with
    | normal => exact h' b h2
    | _ => exact h'
  | region id ops d =>
    cases d with
    | false =>
      simp only [comp] at hc
      split at hc <;> cases hc
    | true => cases hc
  | _ => cases hc
/-- What comes first leaves one of a family of states; what comes then begins at any of them. -/
theorem AWPc.cut {P : Program} {N k0 : Nat} {x y : AC} {env : Env} {σ : Store} {Q : Exit → Env → Store → Prop} {α : Type} (E : α → Env) (S : α → Store) (I : α → Prop)
    (h1 : AWPc P N k0 x env σ (thenA (fun env' σ' => ∃ a, I a ∧ Weak N k0 env' σ' (E a) (S a)) Q))
    (h2 : ∀ a, I a → AWPc P N k0 y (E a) (S a) Q) : AWPc P N k0 (.seq x y) env σ Q := by
  refine AWPc.seq (h1.mono ?_)
  intro e env' σ' h
  cases e with
  | normal => obtain ⟨a, ha, hw⟩ := h; exact AWPc.weak hw (h2 a ha)
  | _ => exact h

theorem ACalls.of_awpc {P : Program} {f : FuncId} {fn : Func} {x : AC} {N : Nat} {rs : List ResultVar} {args : List AV} {σ : Store} {R : AV → Store → Prop} (hf : P.funcs[f]? = some fn) (hb : fn.body.map comp = some x) (hN : fn.ntmps = N) (hrs : fn.results.toList = rs)
    (hn : args.length ≤ N)
    (h : σ.Wf → AWPc P N σ.next x (argEnv 0 args) σ (fun e env' σ' => (e = .normal ∨ e = .ret) ∧ ∃ y y' σ'', resA P env' σ' rs = some y ∧ WeakV σ.next y σ' y' σ'' ∧ R y' σ'')) : ACalls P f args σ R := by
  subst hN; subst hrs
  intro F g w vals hS hs hv
  cases hc : fn.body with
  | none => rw [hc] at hb; cases hb
  | some c =>
    rw [hc] at hb
    simp only [Option.map_some, Option.some.injEq] at hb
    refine calls_of_wp hf hc ?_
    have hE : RelE fn.ntmps g σ.next (argEnv 0 args) { tmps := vals ++ Array.replicate (fn.ntmps - vals.size) undef, defers := [] } := by
      refine ⟨rfl, by simp; omega, fun t => ?_⟩
      rw [argEnv_get]
      simp only [Nat.zero_le, if_true, Nat.sub_zero]
      cases ht : args[t]? with
      | none => exact .any _
      | some x =>
        have hlt : t < vals.size := by rw [hs]; exact getElem?_lt ht
        have := hv t x ht
        simp only [Option.getD_some]
        have e : (vals ++ Array.replicate (fn.ntmps - vals.size) undef).getD t undef = vals.getD t undef := by
          simp only [Array.getD_eq_getD_getElem?]
          rw [Array.getElem?_append_left hlt]
        rw [e]; exact this
    refine wp_mono ((h hS.wf) c hb F g _ w hS hE (Nat.le_refl _)) ?_
    rintro e a' w' ⟨env', σ', g', ⟨he, x, x', σ'', hx, hw, hR⟩, h2, h3, h4, h5⟩
    obtain ⟨v, h6, h7⟩ := resA_sound h4 h5 hx
    obtain ⟨hk, g'', i1, i2, i3⟩ := hw F g' w' v h4 h7 h2
    have hp : bodyPost P fn (fun e w' => ∃ v x σ' g', e = .returned v ∧ Ghost.le σ.next g g' ∧ σ.next ≤ σ'.next ∧ RelS F g' σ' w' ∧ VR g' σ'.next x v ∧ R x σ') .ret a' w' :=
      ⟨h5.defers, v, h6, v, x', σ'', g'', rfl, h3.trans i1, hk, i2, i3, hR⟩
    rcases he with rfl | rfl
    · exact hp
    · exact hp
end Go.Proofs.Ytnanpamfdjnomaa.AL
namespace Go.Proofs.Ytnanpamfdjnomaa.AL
open Go Go.RowKit
/-- Fewer slots. -/
theorem Weak.slots {N k0 : Nat} {env env' : Env} {σ : Store} (h : ∀ p ∈ env', env.get p.1 = p.2) : Weak N k0 env σ env' σ := by
  intro F g a w hS hE hk
  refine ⟨hk, g, .refl _ _, hS, hE.defers, hE.size, fun t => ?_⟩
  rcases Env.get_mem (env := env') (t := t) with h' | ⟨p, h1, h2, h3⟩
  · rw [h']; exact .any _
  · rw [h3, ← h2, ← h p h1]; exact hE.slot p.1
theorem Weak.slots' {N k0 : Nat} {env env' : Env} {σ σ' : Store} (hσ : σ = σ') (h : ∀ p ∈ env', env.get p.1 = p.2) : Weak N k0 env σ env' σ' := by
  subst hσ; exact Weak.slots h
theorem setObj_newObj_ne (σ : Store) (m : Nat) (cs ds : List AV) (h : m ≠ σ.next) : (σ.newObj cs).setObj m ds = (σ.setObj m ds).newObj cs := by
  have e : ∀ k, ((σ.newObj cs).setObj m ds).objs k = ((σ.setObj m ds).newObj cs).objs k := fun k => by
    simp only [objs_setObj, objs_newObj, next_setObj]
    by_cases q : k = m
    · subst q; simp [h]
    · by_cases q' : k = σ.next
      · simp [q, q', Ne.symm h]
      · simp [q, q']
  have e' := funext e
  cases hx : (σ.newObj cs).setObj m ds; cases hy : (σ.setObj m ds).newObj cs
  rw [hx, hy] at e'
  have t := congrArg Store.toks hx; have n := congrArg Store.next hx
  have t' := congrArg Store.toks hy; have n' := congrArg Store.next hy
  have tt : ((σ.newObj cs).setObj m ds).toks = ((σ.setObj m ds).newObj cs).toks := rfl
  have nn : ((σ.newObj cs).setObj m ds).next = ((σ.setObj m ds).newObj cs).next := rfl
  simp only at e' t n t' n'
  simp only [Store.mk.injEq]
  exact ⟨e', t.symm.trans (tt.trans t'), n.symm.trans (nn.trans n')⟩
theorem setObj_newObj_if (σ : Store) (m : Nat) (cs ds : List AV) : (σ.newObj cs).setObj m ds = if m = σ.next then σ.newObj ds else (σ.setObj m ds).newObj cs := by
  split
  · rename_i h; subst h; exact setObj_newObj _ _ _
  · rename_i h; exact setObj_newObj_ne _ _ _ _ h
theorem Store.Wf.newObjs {σ : Store} (h : σ.Wf) : σ.Wf := h
theorem AWPc.step {P : Program} {N k0 : Nat} {x y : AC} {env : Env} {σ : Store} {Q : Exit → Env → Store → Prop}
    (h : arun P N k0 x env σ (thenA (fun env' σ' => AWPc P N k0 y env' σ' Q) Q)) : AWPc P N k0 (.seq x y) env σ Q := AWPc.seq (AWPc.of_arun h)
end Go.Proofs.Ytnanpamfdjnomaa.AL
namespace Go.Proofs.Ytnanpamfdjnomaa.AL
open Go Go.RowKit
/-! ### What is told of a value without names, told less -/
def PLe (p q : PV) : Prop := ∀ I v, VRp I p v → VRp I q v
theorem PLe.refl (p : PV) : PLe p p := fun _ _ h => h
theorem PLe.nil (es : Nat) : PLe (.val (.slice none 0 0)) (.lst es []) := fun _ _ h => by cases h; exact .nil es
inductive PsLe : List PV → List PV → Prop
  | nil : PsLe [] []
  | cons {p q : PV} {ps qs : List PV} (h : PLe p q) (k : PsLe ps qs) : PsLe (p :: ps) (q :: qs)
inductive LLe : List (List PV) → List (List PV) → Prop
  | nil : LLe [] []
  | cons {p q : List PV} {ps qs : List (List PV)} (h : PsLe p q) (k : LLe ps qs) : LLe (p :: ps) (q :: qs)
theorem PsLe.refl : ∀ l, PsLe l l
  | [] => .nil
  | p :: l => .cons (.refl p) (PsLe.refl l)
theorem LLe.refl : ∀ l, LLe l l
  | [] => .nil
  | p :: l => .cons (.refl p) (LLe.refl l)
theorem PsLe.length {x y : List PV} (h : PsLe x y) : x.length = y.length := by induction h <;> simp_all
theorem LLe.length {x y : List (List PV)} (h : LLe x y) : x.length = y.length := by induction h <;> simp_all
theorem PsLe.get {x y : List PV} (h : PsLe x y) : ∀ (j : Nat) (q : PV), y[j]? = some q → ∃ p, x[j]? = some p ∧ PLe p q := by
  induction h with
  | nil => intro j q hq; simp at hq
  | cons h k ih =>
    intro j q hq
    cases j with
    | zero => simp at hq; subst hq; exact ⟨_, rfl, h⟩
    | succ j => simp at hq; simpa using ih j q hq
theorem LLe.get {x y : List (List PV)} (h : LLe x y) : ∀ (j : Nat) (q : List PV), y[j]? = some q → ∃ p, x[j]? = some p ∧ PsLe p q := by
  induction h with
  | nil => intro j q hq; simp at hq
  | cons h k ih =>
    intro j q hq
    cases j with
    | zero => simp at hq; subst hq; exact ⟨_, rfl, h⟩
    | succ j => simp at hq; simpa using ih j q hq
theorem PLe.lst {es : Nat} {xs ys : List (List PV)} (h : LLe xs ys) : PLe (.lst es xs) (.lst es ys) := fun I v hv => by
  have hl := h.length
  cases hv with
  | nil =>
    have : ys = [] := List.eq_nil_of_length_eq_zero (by simpa using hl.symm)
    subst this; exact .nil es
  | emp _ a cap =>
    have : ys = [] := List.eq_nil_of_length_eq_zero (by simpa using hl.symm)
    subst this; exact .emp es a cap
  | lst _ _ b o cap cells hcap hcl h1 hx hI hV =>
    rw [hl]
    refine .lst es ys b o cap cells (by omega) (by rw [hcl, hl]) h1 (fun i y hy => ?_) hI (fun i y j q hy hq => ?_)
    · obtain ⟨x, hx1, hx2⟩ := h.get i y hy
      rw [← hx2.length]; exact hx i x hx1
    · obtain ⟨x, hx1, hx2⟩ := h.get i y hy
      obtain ⟨p, hp1, hp2⟩ := hx2.get j q hq
      exact hp2 _ _ (hV i x j p hx1 hp1)
theorem Le.pv {p q : PV} (h : PLe p q) : Le (.pv p) (.pv q) := fun _ _ _ hv => by cases hv with | pv hp => exact .pv (h _ _ hp)
theorem Le.trans {x y z : AV} (h : Le x y) (k : Le y z) : Le x z := fun g m v hv => k g m v (h g m v hv)
theorem Le.lst {es : Nat} {x : AV} {xs ys : List (List PV)} (hx : x.list? es = some xs) (h : LLe xs ys) : Le x (.pv (.lst es ys)) := (Le.list hx).trans (.pv (.lst h))
theorem Le.nil (es : Nat) : Le .nil (.pv (.lst es [])) := .pv (.nil es)
end Go.Proofs.Ytnanpamfdjnomaa.AL
