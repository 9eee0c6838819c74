/- AL: a call of a function value. -/
import Derived.Test.YtnanpamfdjnomaaALSet
namespace Go.Proofs.Ytnanpamfdjnomaa.AL
open Go Go.RowKit

theorem AOp.callv {P : Program} {N : Nat} {o : Oper} {env : Env} {σ : Store} {K : AV → Store → Prop} {t : Nat} {f : FuncId} {args : Array Operand} {ts : Array TypeId} (ho : o.op = .call { callee := .value (.tmp t), args, argTypes := ts })
    (he : env.get t = .pv (.val (.func (.func f) #[] #[]))) (hf : callable P f = true) (h : ACalls P f (args.toList.map (evalA env)) σ K) : AOp P N o env σ K := by
  obtain ⟨dst, op, type, pos, after, guard⟩ := o
  dsimp only at ho
  subst ho
  intro F g a w hS hE Q
  have hv : a.tmps.getD t undef = .func (.func f) #[] #[] := by
    have := hE.slot t
    rw [he] at this
    generalize a.tmps.getD t undef = v at this
    cases this with
    | pv h => cases h; rfl
  have hv' : a.eval (.tmp t) = .func (.func f) #[] #[] := hv
  have hr : (execOp a.eval ⟨dst, .call { callee := .value (.tmp t), args, argTypes := ts }, type, pos, after, guard⟩).run P w = .ok (.enter f (args.map a.eval)) w := by
    simp [execOp, resolve, invoke, hv', Deferred.ofValue, run_callFunc hf]
  simp only [Oper.wp, hr, Oper.upon]
  refine (h F g w (args.map a.eval) hS (by simp) fun j y hj => ?_).mono ?_
  · rw [List.getElem?_map] at hj
    simp only [Array.getElem?_toList] at hj
    cases hx : args[j]? with
    | none => rw [hx] at hj; cases hj
    | some x =>
      rw [hx] at hj
      simp only [Option.map_some, Option.some.injEq] at hj
      subst hj
      have : (args.map a.eval).getD j undef = a.eval x := by simp [Array.getD_eq_getD_getElem?, hx]
      rw [this]; exact hE.eval x
  · rintro e w' ⟨v, x, σ', g', rfl, h2, h3, h4, h5, h6⟩
    exact ⟨v, x, σ', g', rfl, h2, h3, h4, h5, h6⟩

theorem AOpc.callv {P : Program} {N : Nat} {env : Env} {σ : Store} {K : AV → Store → Prop} {t : Nat} {f : FuncId} {args : Array Operand} {ts : Array TypeId}
    (he : env.get t = .pv (.val (.func (.func f) #[] #[]))) (hf : callable P f = true) (h : ACalls P f (args.toList.map (evalA env)) σ K) : AOpc P N (.call { callee := .value (.tmp t), args, argTypes := ts }) env σ K :=
  fun _ ho => AOp.callv ho he hf h

/-! ### A row in an object's cell -/
theorem RelS.vrObj {F : Base} {g : Ghost} {σ : Store} {w : World} (h : RelS F g σ w) {n : Nat} {cs ds : List AV} (hn : σ.objs n = some cs) (hl : cs.length = ds.length)
    (hle : ∀ (i : Nat) (x y : AV), cs[i]? = some x → ds[i]? = some y → ∀ v, VR g σ.next x v → VR g σ.next y v) : RelS F g (σ.setObj n ds) w := by
  have ho : ∀ m, ((σ.setObj n ds).objs m).isSome → (σ.objs m).isSome := fun m hm => by simp only [Store.setObj] at hm; by_cases q : m = n <;> simp_all
  refine ⟨h.below, h.base, h.imm, fun m es hm => ?_, h.tok, fun a b ha hb => h.inj a b (ho a ha) (ho b hb), h.injt, fun a t ha => h.apart a t (ho a ha)⟩
  simp only [Store.setObj] at hm ⊢
  by_cases q : m = n
  · subst q
    simp only [if_true, Option.some.injEq] at hm
    subst hm
    obtain ⟨h1, h2, h3, c, e, h4, h5, h6⟩ := h.obj m cs hn
    refine ⟨h1, h2, h3, c, e, h4, by omega, fun i y hy => ?_⟩
    have hi : i < cs.length := by have := getElem?_lt hy; omega
    exact hle i cs[i] y (List.getElem?_eq_getElem hi) hy _ (h6 i _ (List.getElem?_eq_getElem hi))
  · rw [if_neg q] at hm; exact h.obj m es hm

/-- A cell that holds nothing yet, as a row that may be appended to. -/
theorem Weak.fullObj {N k0 : Nat} {env : Env} {σ : Store} (n j : Nat) {cs : List AV} {y : AV} (hn : σ.objs n = some cs) (hj : cs[j]? = some y) (e : TypeId) (es : Nat) {xs : List (List PV)} (hx : y.full? es = some xs) (m : Nat) :
    Weak N k0 env σ env ((σ.newTok e es m).setObj n (cs.set j (.row σ.next es xs))) := by
  intro F g a w hS hE hk
  have hle := Ghost.le_named g σ.next 0 0 true
  refine ⟨Nat.le_trans hk (Nat.le_succ _), _, hle.mono hk, (hS.newFull e es m).vrObj (cs := cs) hn (by simp) ?_, hE.defers, hE.size, fun t => (hE.slot t).mono hle (Nat.le_succ _)⟩
  intro i x z h1 h2 v hv
  by_cases q : i = j
  · subst q
    rw [hj] at h1
    cases h1
    have hi := getElem?_lt hj
    rw [List.getElem?_set_self hi] at h2
    cases h2
    have hf := hv.full' hx
    cases hf with | full r => exact .rowfull (by simp [Store.newTok]) (by simp [Ghost.named, upd]) r
  · rw [List.getElem?_set_ne (fun h => q h.symm), h1] at h2
    cases h2; exact hv
theorem Le.agg4 {a b c d a' b' c' d' : AV} (h1 : Le a a') (h2 : Le b b') (h3 : Le c c') (h4 : Le d d') : Le (.agg [a, b, c, d]) (.agg [a', b', c', d']) := by
  refine Le.agg rfl fun i x y hx hy => ?_
  match i, hx, hy with
  | 0, hx, hy => simp at hx hy; subst hx; subst hy; exact h1
  | 1, hx, hy => simp at hx hy; subst hx; subst hy; exact h2
  | 2, hx, hy => simp at hx hy; subst hx; subst hy; exact h3
  | 3, hx, hy => simp at hx hy; subst hx; subst hy; exact h4
  | n + 4, hx, hy => simp at hx
end Go.Proofs.Ytnanpamfdjnomaa.AL
