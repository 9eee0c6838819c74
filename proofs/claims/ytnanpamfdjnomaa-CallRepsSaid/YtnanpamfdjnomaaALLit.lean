/- AL: a constant string's bytes: a literal that is marked. -/
import Derived.Test.YtnanpamfdjnomaaALMake
namespace Go.Proofs.Ytnanpamfdjnomaa.AL
open Go Go.RowKit

theorem freeze_other (w : World) (a : Addr) (n k : Nat) (h : k ≠ a.block) : (w.freeze a n).heap[k]? = w.heap[k]? := by
  unfold World.freeze
  split
  · rfl
  · simp only [Array.getElem?_modify]
    rw [if_neg (Ne.symm h)]
theorem freeze_size (w : World) (a : Addr) (n : Nat) : (w.freeze a n).heap.size = w.heap.size := by
  unfold World.freeze
  split
  · rfl
  · simp
theorem freeze_cell (w : World) (a : Addr) (n : Nat) (x : Addr) : (w.freeze a n).cell? x = w.cell? x := by
  by_cases h : x.block = a.block
  · unfold World.freeze
    split
    · rfl
    · simp only [World.cell?, Array.getElem?_modify, h, if_true]
      cases hx : w.heap[a.block]? with
      | none => rfl
      | some o => cases o <;> rfl
  · unfold World.cell?
    rw [freeze_other _ _ _ _ h]

theorem RelS.freeze {F : Base} {g : Ghost} {σ : Store} {w : World} (h : RelS F g σ w) (b k n : Nat) (hB : F.B ≤ b) (hobj : ∀ n, (σ.objs n).isSome → g.φ n ≠ b) (htok : ∀ t, (σ.toks t).isSome → g.ph t = false → g.φ t ≠ b) :
    RelS F g σ (w.freeze ⟨b, k, none⟩ n) := by
  have hf : ∀ m, m ≠ b → (w.freeze ⟨b, k, none⟩ n).heap[m]? = w.heap[m]? := fun m hm => freeze_other _ _ _ _ hm
  have e1 : (w.freeze ⟨b, k, none⟩ n).tape = w.tape := by unfold World.freeze; split <;> rfl
  have e3 : (w.freeze ⟨b, k, none⟩ n).os = w.os := by unfold World.freeze; split <;> rfl
  have e4 : (w.freeze ⟨b, k, none⟩ n).output = w.output := by unfold World.freeze; split <;> rfl
  refine ⟨h.below.trans ⟨?_, ?_, ?_, by rw [freeze_size]; exact Nat.le_refl _, fun m hm => hf m (by omega)⟩, by rw [freeze_size]; exact h.base, fun b' o v hi => by rw [freeze_cell]; exact h.imm b' o v hi, fun m cs hm => ?_, fun t e es m ht => ?_, h.inj, h.injt, h.apart⟩
  · first | exact e1 | exact e3 | exact e4
  · first | exact e1 | exact e3 | exact e4
  · first | exact e4 | exact e3 | exact e1
  · obtain ⟨i1, i2, i3, c, e, i4, i5⟩ := h.obj m cs hm
    exact ⟨i1, i2, i3, c, e, by rw [hf _ (hobj m (by simp [hm]))]; exact i4, i5⟩
  · obtain ⟨i1, i2⟩ := h.tok t e es m ht
    refine ⟨i1, fun hp => ?_⟩
    obtain ⟨j1, j2, c, e', j3, j4⟩ := i2 hp
    exact ⟨j1, j2, c, e', by rw [hf _ (htok t (by simp [ht]) hp)]; exact j3, j4⟩

theorem AOpc.mark {P : Program} {N : Nat} {env : Env} {σ : Store} {K : AV → Store → Prop} {t e : TypeId} {b n len cap : Nat} {x : Operand} {ps : List PV} (ht : tSl P t = some (e, 1, b)) (he : tInt P e = some .u8)
    (hx : evalA env x = .sl n 0 len cap) (hn : σ.objs n = some (ps.map .pv)) (hone : ∀ p ∈ ps, p.one = true) (hfit : len ≤ ps.length) (hcap : len ≤ cap)
    (hK : K (.pv (.lst 1 ((ps.take len).map ([·])))) (σ.dropObj n)) : AOpc P N (.convert t t x) env σ K := by
  intro o ho F g a w hS hE Q
  obtain ⟨hu, -⟩ := tSl_spec ht
  have hu8 : P.underlying e = some (.int .u8) := by
    unfold tInt at he
    split at he <;> simp_all
  have h1 := hE.eval x
  rw [hx] at h1
  obtain ⟨q1, q2, q3, c, e', q4, q5, q6⟩ := hS.obj n _ hn
  have hv : a.eval x = .slice (some ⟨g.φ n, 0, none⟩) len cap := by generalize a.eval x = v at h1; cases h1; rfl
  have hsh : w.shape? (g.φ n) = some (e', c.size) := by unfold World.shape?; rw [q4]
  have hr : (execOp a.eval o).run P w = .ok (.value (.slice (some ⟨g.φ n, 0, none⟩) len cap)) (w.freeze ⟨g.φ n, c.size, none⟩ 1) := by
    unfold execOp
    rw [ho]
    simp [hv, convert, run_underlying hu, run_underlying hu8, markStringish, hsh]
  obtain ⟨g', i1, i2, i3⟩ := Go.Proofs.Ytnanpamfdjnomaa.AL.settle hS hn hone
  have hφ : g'.φ n = g.φ n := i1.φ n q1
  have hF : RelS F g' (σ.dropObj n) (w.freeze ⟨g.φ n, c.size, none⟩ 1) := i2.freeze _ _ _ q2 (fun m hm he => by
      simp only [Store.dropObj] at hm
      by_cases q : m = n
      · simp [q] at hm
      · rw [if_neg q] at hm
        obtain ⟨cs, hcs⟩ := Option.isSome_iff_exists.1 hm
        have := (hS.obj m cs hcs).1
        rw [i1.φ m this] at he
        exact q (hS.inj m n hm (by simp [hn]) he)) (fun s hs hp he => by
      simp only [Store.dropObj] at hs
      obtain ⟨⟨e1, es1, m1⟩, h1⟩ := Option.isSome_iff_exists.1 hs
      have hl := (hS.tok s _ _ _ h1).1
      rw [i1.ph s hl] at hp
      rw [i1.φ s hl] at he
      exact hS.apart n s (by simp [hn]) hs hp he.symm)
  simp only [Oper.wp, hr, Oper.upon]
  have h3 := i3 0 len cap _ (by omega) hcap h1
  rw [hv, List.drop_zero] at h3
  exact ⟨_, _, σ.dropObj n, g', rfl, i1, Nat.le_refl _, hF, h3, hK⟩

theorem AOpc.lit {P : Program} {N : Nat} {env : Env} {σ : Store} {K : AV → Store → Prop} {t e : TypeId} {b len : Nat} {parts : Array (Nat × Operand)} {ps : List PV} (ht : tSl P t = some (e, 1, b)) (hlen : parts.size = len) (hbig : len ≤ 16777216)
    (h : litsA 1 0 (parts.toList.map fun p => (p.1, evalA env p.2)) = some (ps.map ([·]))) (hK : K (.sl σ.next 0 len len) (σ.newObj (ps.map .pv))) : AOpc P N (.buildSlice t len parts) env σ K := by
  intro o ho F g a w hS hE Q
  obtain ⟨hu, i, z, hi, hz, hzs, hpos, hes, rfl⟩ := tSl_spec ht
  obtain ⟨hl, hp⟩ := hE.evals parts
  have hb : ¬ 16777216 < len * i.size := by rw [← hes]; omega
  have key : ∀ c : Array Value, c.size = len * i.size → ∃ d cells, Instr.fill (fun j => some (j * i.size, i.size)) c (parts.map fun (i, x) => (i, a.eval x)).toList = some d ∧ Flat g.I i.size (ps.map ([·])) cells ∧ (ps.map ([·])).length = len ∧ d.toList = cells := by
    intro c hc
    have h' : litsA i.size 0 (parts.toList.map fun p => (p.1, evalA env p.2)) = some (ps.map ([·])) := hes ▸ h
    obtain ⟨d, cells, h1, h2, h3, h4⟩ := litsA_sound (g := g) (k := σ.next) (n := 0) (c := c) (vs := (parts.map fun (i, x) => (i, a.eval x)).toList) (by simp) (fun j p q hpj hqj => hp j p q hpj (by simpa using hqj)) h' (by rw [Nat.zero_add]; simpa [hlen] using hc)
    exact ⟨d, cells, h1, h2, by rw [h3]; simp [hlen], by simpa using h4⟩
  have fin : ∀ (d : Array Value) (cells : List Value), Flat g.I i.size (ps.map ([·])) cells → (ps.map ([·])).length = len → d.toList = cells →
      RelS F (g.named σ.next w.heap.size 0 false) (σ.newObj (ps.map .pv)) (w.alloc (.cells d e)) ∧ VR (g.named σ.next w.heap.size 0 false) (σ.next + 1) (.sl σ.next 0 len len) (.slice (some ⟨w.heap.size, 0, none⟩) len len) := by
    intro d cells h2 h3 h4
    have hdl : d.size = cells.length := by rw [← h4]; simp
    have hcl := h2.len
    rw [← hes] at hcl h2
    refine ⟨hS.newObj d e (ps.map .pv) (by rw [hdl, hcl]; simp) (fun j x hx => ?_), ?_⟩
    · rw [List.getElem?_map] at hx
      cases hq : ps[j]? with
      | none => rw [hq] at hx; cases hx
      | some q =>
        rw [hq] at hx
        simp only [Option.map_some, Option.some.injEq] at hx
        subst hx
        have := h2.el j [q] 0 q (by simp [hq]) rfl
        simp only [Nat.mul_one, Nat.add_zero] at this
        have e1 : d.getD j undef = cells.getD j undef := by rw [← h4]; simp [Array.getD_eq_getD_getElem?, List.getD_eq_getElem?_getD]
        rw [e1]; exact .pv this
    · have := VR.sl (g := g.named σ.next w.heap.size 0 false) (k := σ.next + 1) (n := σ.next) (off := 0) (len := len) (cap := len) (by omega)
      simpa [Ghost.named, upd] using this
  have hr : ∃ d, (execOp a.eval o).run P w = .ok (.value (.slice (some ⟨w.heap.size, 0, none⟩) len len)) (w.alloc (.cells d e)) ∧ RelS F (g.named σ.next w.heap.size 0 false) (σ.newObj (ps.map .pv)) (w.alloc (.cells d e)) ∧
      VR (g.named σ.next w.heap.size 0 false) (σ.next + 1) (.sl σ.next 0 len len) (.slice (some ⟨w.heap.size, 0, none⟩) len len) := by
    by_cases h0 : len * i.size = 0
    · obtain ⟨d, cells, h1, h2, h3, h4⟩ := key #[] (by simp [h0])
      refine ⟨d, ?_, fin d cells h2 h3 h4⟩
      unfold execOp
      rw [ho]
      rw [Array.toList_map] at h1
      simp [Instr.buildSlice, run_underlying hu, sizeOf, typeInfo, hi, hb, h0, h1, newRow_run, Array.range_zero']
    · obtain ⟨d, cells, h1, h2, h3, h4⟩ := key ((Array.range (len * i.size)).map (z.cells[· % z.cells.size]!)) (by simp)
      refine ⟨d, ?_, fin d cells h2 h3 h4⟩
      unfold execOp
      rw [ho]
      rw [Array.toList_map] at h1
      simp [Instr.buildSlice, run_underlying hu, sizeOf, typeInfo, hi, hb, h0, zeroValue, hz, h1, newRow_run]
  obtain ⟨d, h1, h2, h3⟩ := hr
  simp only [Oper.wp, h1, Oper.upon]
  exact ⟨_, _, _, _, rfl, Ghost.le_named _ _ _ _ _, Nat.le_succ _, h2, h3, hK⟩

/-! ### Regions, by hand -/
theorem AWPc.reg {P : Program} {N k0 : Nat} {l : List GOp} {env : Env} {σ : Store} {Q : Exit → Env → Store → Prop} (h : ∀ ops os, gops ops os = some l → vops P N ops os env σ (Q .normal)) : AWPc P N k0 (.reg l) env σ Q := by
  intro c hc
  cases c with
  | region id ops d =>
    cases d with
    | false =>
      simp only [comp] at hc
      split at hc
      · rename_i l' hl
        injection hc with hc; subst hc
        exact vwp_sound P N k0 (.region id ops false) env σ Q (h _ _ hl)
      · cases hc
    | true => cases hc
  | _ => cases hc
theorem vops_one {P : Program} {N : Nat} {ops : Array Oper} {os : List Oper} {d : Option Nat} {op : Op} {l : List GOp} {env : Env} {σ : Store} {K : Env → Store → Prop} (hl : gops ops os = some (⟨none, d, op⟩ :: l)) (hd : dOk N d = true)
    (h : AOpc P N op env σ fun x σ' => ∀ os', gops ops os' = some l → vops P N ops os' (env.put d x) σ' K) : vops P N ops os env σ K := by
  cases os with
  | nil => simp [gops] at hl
  | cons o os =>
    simp only [gops] at hl
    split at hl
    · rename_i x xs hx hxs
      injection hl with hl
      injection hl with h1 h2
      subst h1; subst h2
      unfold gop at hx
      split at hx
      · rename_i hg
        injection hx with hx
        injection hx with h3 h4 h5
        subst h4; subst h5
        simp only [vops, guardA, hg]
        exact ⟨dOk_spec hd, fun _ => (h o rfl).mono fun x σ' hk => hk os hxs, fun hb => by cases hb⟩
      · split at hx <;> cases hx
    · cases hl
/-- From here on reckoned. -/
theorem vops_of {P : Program} {N : Nat} {ops : Array Oper} {os : List Oper} {l : List GOp} {env : Env} {σ : Store} {K : Env → Store → Prop} (hl : gops ops os = some l) (h : arops P N l env σ K) : vops P N ops os env σ K := arops_vops hl h
end Go.Proofs.Ytnanpamfdjnomaa.AL
namespace Go.Proofs.Ytnanpamfdjnomaa.AL
open Go Go.RowKit
/-! ### Loops and blocks with cuts inside -/
theorem AWPc.loop' {P : Program} {N k0 : Nat} {x : AC} {α : Type} (E : α → Env) (S : α → Store) (I : α → Prop) (μ : α → Nat) {env : Env} {σ : Store} {Q : Exit → Env → Store → Prop}
    (h0 : ∃ a, I a ∧ Weak N k0 env σ (E a) (S a))
    (h : ∀ a, I a → AWPc P N k0 x (E a) (S a) (thenA (fun env' σ' => ∃ b, I b ∧ μ b < μ a ∧ Weak N k0 env' σ' (E b) (S b)) Q)) : AWPc P N k0 (.loop x) env σ Q := by
  intro c hc
  cases c with
  | loop c =>
    simp only [comp] at hc
    injection hc with hc
    exact AWP.loop E S I μ h0 fun a ha => h a ha c hc
  | region id ops d =>
    cases d with
    | false =>
      simp only [comp] at hc
      split at hc <;> cases hc
    | true => cases hc
  | _ => cases hc
theorem AWPc.block {P : Program} {N k0 : Nat} {id : Nat} {x : AC} {env : Env} {σ : Store} {Q : Exit → Env → Store → Prop} (h : AWPc P N k0 x env σ (blkA id Q)) : AWPc P N k0 (.block id x) env σ Q := by
  intro c hc
  cases c with
  | block id' c =>
    simp only [comp] at hc
    injection hc with h1 h2
    subst h1
    exact AWP.block (h c h2)
  | region id ops d =>
    cases d with
    | false =>
      simp only [comp] at hc
      split at hc <;> cases hc
    | true => cases hc
  | _ => cases hc
/-- To σ with three rows. -/
theorem Weak.three {N k0 : Nat} {env env' : Env} {σ τ : Store} (hwf : σ.Wf) (hk : k0 ≤ σ.next) (ha : Agree σ τ) (t1 t2 t3 : Nat) {x1 x2 x3 : TypeId × Nat × Nat} (h1 : τ.toks t1 = some x1) (h2 : τ.toks t2 = some x2) (h3 : τ.toks t3 = some x3)
    (g1 : σ.next ≤ t1) (g2 : σ.next ≤ t2) (g3 : σ.next ≤ t3) (n12 : t1 ≠ t2) (n13 : t1 ≠ t3) (n23 : t2 ≠ t3)
    (henv : ∀ p ∈ env', LeR σ.next [t1, t2, t3] (env.get p.1) p.2) : Weak N k0 env τ env' (σ.newToks [x1, x2, x3]) :=
  Weak.toks hwf hk ha [t1, t2, t3] [x1, x2, x3] rfl (fun i s x h h' => by
    match i, h, h' with
    | 0, h, h' => simp at h h'; subst h; subst h'; exact h1
    | 1, h, h' => simp at h h'; subst h; subst h'; exact h2
    | 2, h, h' => simp at h h'; subst h; subst h'; exact h3
    | n + 3, h, h' => simp at h) (by simp [n12, n13, n23]) (fun s h => by simp at h; rcases h with rfl | rfl | rfl <;> assumption) henv
theorem Weak.two {N k0 : Nat} {env env' : Env} {σ τ : Store} (hwf : σ.Wf) (hk : k0 ≤ σ.next) (ha : Agree σ τ) (t1 t2 : Nat) {x1 x2 : TypeId × Nat × Nat} (h1 : τ.toks t1 = some x1) (h2 : τ.toks t2 = some x2)
    (g1 : σ.next ≤ t1) (g2 : σ.next ≤ t2) (n12 : t1 ≠ t2) 
    (henv : ∀ p ∈ env', LeR σ.next [t1, t2] (env.get p.1) p.2) : Weak N k0 env τ env' (σ.newToks [x1, x2]) :=
  Weak.toks hwf hk ha [t1, t2] [x1, x2] rfl (fun i s x h h' => by
    match i, h, h' with
    | 0, h, h' => simp at h h'; subst h; subst h'; exact h1
    | 1, h, h' => simp at h h'; subst h; subst h'; exact h2
    | n + 2, h, h' => simp at h) (by simp [n12]) (fun s h => by simp at h; rcases h with rfl | rfl <;> assumption) henv
theorem LeR.rowAt {k es t : Nat} {ts : List Nat} {xs ys : List (List PV)} (i : Nat) (hi : ts[i]? = some t) {m : Nat} (hm : m = k + i) (h : xs = ys) : LeR k ts (.row t es xs) (.row m es ys) := by subst h; subst hm; exact LeR.row hi
/-! ### A draw's operation under a guard -/
section
variable {P : Program} {N : Nat} {ops : Array Oper} {chain : List Nat} {os : List Oper} {i : Nat} {env : Env} {σ : Store} {lds : List (Op × Env × AV)} {prs : List Store} {K : Env → Store → Prop}
  {dst : Option Nat} {op : Op} {ty : TypeId} {pos : String} {after : Array Edge}
theorem dreg_on {j t : Nat} {want : Bool} (hj : (ops[j]?).bind (·.dst) = some t) (hb : env.get t = .bool want)
    (h : dreg P N ops chain ({ dst := dst, op := op, type := ty, pos := pos, after := after, guard := none } :: os) i env σ lds prs K) :
    dreg P N ops chain ({ dst := dst, op := op, type := ty, pos := pos, after := after, guard := some (j, want) } :: os) i env σ lds prs K := by
  simp only [dreg, guardA, hj, hb, beq_self_eq_true] at h ⊢
  exact h
theorem dreg_off {j t : Nat} {want : Bool} (hj : (ops[j]?).bind (·.dst) = some t) (hb : env.get t = .bool (!want)) (hd : dOk N dst = true)
    (h : dreg P N ops chain os (i + 1) (env.put dst .any) σ lds prs K) :
    dreg P N ops chain ({ dst := dst, op := op, type := ty, pos := pos, after := after, guard := some (j, want) } :: os) i env σ lds prs K := by
  have hq : ((!want) == want) = false := by cases want <;> rfl
  simp only [dreg, guardA, hj, hb, hq]
  exact ⟨hd, fun _ => h, fun h => by cases h⟩
/-- Held, so that it can be settled by hand. -/
def dregG (P : Program) (N : Nat) (ops : Array Oper) (chain : List Nat) (o : Oper) (os : List Oper) (i : Nat) (env : Env) (σ : Store) (lds : List (Op × Env × AV)) (prs : List Store) (K : Env → Store → Prop) : Prop :=
  dreg P N ops chain (o :: os) i env σ lds prs K
theorem dreg_consG {g : Nat × Bool} : dreg P N ops chain ({ dst := dst, op := op, type := ty, pos := pos, after := after, guard := some g } :: os) i env σ lds prs K =
    dregG P N ops chain { dst := dst, op := op, type := ty, pos := pos, after := after, guard := some g } os i env σ lds prs K := id rfl
end
end Go.Proofs.Ytnanpamfdjnomaa.AL
namespace Go.Proofs.Ytnanpamfdjnomaa.AL
open Go Go.RowKit
theorem dreg_guarded {P : Program} {N : Nat} {ops : Array Oper} {chain : List Nat} {os : List Oper} {i : Nat} {env : Env} {σ : Store} {lds : List (Op × Env × AV)} {prs : List Store} {K : Env → Store → Prop}
  {dst : Option Nat} {op : Op} {ty : TypeId} {pos : String} {after : Array Edge} {j : Nat} {want : Bool} :
    dreg P N ops chain ({ dst := dst, op := op, type := ty, pos := pos, after := after, guard := some (j, want) } :: os) i env σ lds prs K =
      match (ops[j]?).bind (·.dst) with
      | some t => match env.get t with
        | .pv (.val (.bool b)) => if b = want then dreg P N ops chain ({ dst := dst, op := op, type := ty, pos := pos, after := after, guard := none } :: os) i env σ lds prs K
          else (dOk N dst = true ∧ dreg P N ops chain os (i + 1) (env.put dst .any) σ lds prs K)
        | _ => False
      | none => False := by
  simp only [dreg, guardA]
  cases (ops[j]?).bind (·.dst) with
  | none => rfl
  | some t =>
    dsimp only
    cases env.get t with
    | pv p =>
      cases p with
      | val v =>
        cases v with
        | bool b =>
          dsimp only
          by_cases h : b = want
          · subst h; simp
          · have : (b == want) = false := by simp [h]
            rw [this, if_neg h]; simp
        | _ => rfl
      | _ => rfl
    | _ => rfl
/-- A region that draws, with guards: where each operation's answer goes is known. -/
theorem awpDregG {P : Program} {N k0 : Nat} {id : Nat} {ops : Array Oper} {env : Env} {σ : Store} (hm : P.follows .mixedOrders = true) (chain : List Nat) (ho : orderly ops chain = true) (hf : forward ops = true)
    {Q : Exit → Env → Store → Prop} (h : ∀ ops' : Array Oper, (∀ j : Nat, ((ops'[j]?).bind fun (o : Oper) => o.dst) = ((ops[j]?).bind fun (o : Oper) => o.dst)) → dreg P N ops' chain ops.toList 0 env σ [] [] (Q .normal)) : AWP P N k0 (.region id ops true) env σ Q :=
  AWP.dreg hm chain ho hf (h ops fun _ => rfl)
theorem AWPc.raw {P : Program} {N k0 : Nat} {c : Code} {env : Env} {σ : Store} {Q : Exit → Env → Store → Prop} (h : AWP P N k0 c env σ Q) (hc : comp c = .raw c) : AWPc P N k0 (.raw c) env σ Q := AWPc.of_arun h
end Go.Proofs.Ytnanpamfdjnomaa.AL
namespace Go.Proofs.Ytnanpamfdjnomaa.AL
open Go Go.RowKit
/-- Append onto a list of nothing, of some bytes or the like: an array that may be written. -/
theorem AOpc.appObj {P : Program} {N : Nat} {env : Env} {σ : Store} {K : AV → Store → Prop} {x y : Operand} {t e : TypeId} {b : Nat} {z : Value} {ps : List PV}
    (ht : tSl P t = some (e, 1, b)) (hz : tZero P e = some [z]) (hx : (evalA env x).full? 1 = some []) (hy : (evalA env y).list? 1 = some (ps.map ([·])))
    (h0 : 0 < ps.length) (h47 : ps.length * b ≤ 140737488355328) (h63 : ps.length ≤ maxLen)
    (hK : ∀ cap, ps.length ≤ cap → cap ≤ maxLen → K (.sl σ.next 0 ps.length cap) (σ.newObj (ps.map .pv ++ List.replicate (cap - ps.length) (.pv (.val z))))) :
    AOpc P N (.call { callee := .builtin .append, args := #[x, y], argTypes := #[t, t] }) env σ K := by
  intro o ho F g a w hS hE Q
  obtain ⟨hu, i, z', hi, hz', hzs, hpos, hes, rfl⟩ := tSl_spec ht
  have hzc : z'.cells = #[z] := by
    simp only [tZero, hi, Option.bind_some, hz', Option.map_some, Option.some.injEq] at hz
    apply Array.ext'; simpa using hz
  have h1 := (hE.eval x).full' hx
  have h2 := (hE.eval y).list hy
  rw [hes] at h1 h2
  obtain ⟨news, hf, hn⟩ := h2.flat
  have hml : (ps.map ([·])).length = ps.length := by simp
  obtain ⟨bb, oo, cc, hsrc, hcc, hI⟩ : ∃ b o cap, a.eval y = .slice (some ⟨b, o, none⟩) ps.length cap ∧ ps.length ≤ cap ∧ ∀ (j : Nat) (u : Value), news[j]? = some u → g.I b (o + j) = some u := by
    rcases hn with ⟨_, hys⟩ | ⟨_, _, _, _, hys⟩ | ⟨b, o, cap, h, h', h''⟩
    · rw [hys] at hml; simp at hml; omega
    · rw [hys] at hml; simp at hml; omega
    · exact ⟨b, o, cap, by rw [h, hml], by rw [← hml]; exact h', h''⟩
  have hcell : ∀ j u, news[j]? = some u → w.cell? ((⟨bb, oo, none⟩ : Addr).add j) = some u := fun j u hj => by rw [Addr.add_mk]; exact hS.imm _ _ _ (hI j u hj)
  have hnl : news.length = ps.length * i.size := by rw [hf.len, hml]
  have hge := grownCap_ge w ps.length 0 e
  have hle := grownCap_le_maxLen w ps.length 0 e h63
  have fin : ∀ (c : Array Value), c = news.toArray ++ Builtin.zeroCells z'.cells (grownCap w ps.length 0 e - ps.length) → (execOp a.eval o).run P w = .ok (.value (.slice (some ⟨w.heap.size, 0, none⟩) ps.length (grownCap w ps.length 0 e))) (w.drew.alloc (.cells c e)) →
      o.wp P a w (fun a' w' => ∃ v x σ' g', a' = a.put o.dst v ∧ Ghost.le σ.next g g' ∧ σ.next ≤ σ'.next ∧ RelS F g' σ' w' ∧ VR g' σ'.next x v ∧ K x σ') Q := by
    intro c hc hx
    have hN := hS.drew.newObj c e (ps.map .pv ++ List.replicate (grownCap w ps.length 0 e - ps.length) (.pv (.val z))) (by rw [hc, hzc, zeroCells_one]; simp [hnl, ← hes]) (fun j x hx => by
      by_cases hj : j < ps.length
      · rw [List.getElem?_append_left (by simpa using hj), List.getElem?_map] at hx
        cases hq : ps[j]? with
        | none => rw [hq] at hx; cases hx
        | some q =>
          rw [hq] at hx
          simp only [Option.map_some, Option.some.injEq] at hx
          subst hx
          have := hf.el j [q] 0 q (by simp [hq]) rfl
          have hjn : j < news.length := by rw [hnl, ← hes]; omega
          have e1 : c.getD j undef = news.getD (j * i.size + 0) undef := by
            rw [hc, ← hes]
            simp only [Nat.mul_one, Nat.add_zero, Array.getD_eq_getD_getElem?, List.getD_eq_getElem?_getD]
            rw [Array.getElem?_append_left (by simpa using hjn)]
            simp
          rw [e1]
          exact .pv this
      · have hlt := getElem?_lt hx
        simp at hlt
        rw [List.getElem?_append_right (by simp; omega), List.getElem?_replicate] at hx
        simp only [List.length_map] at hx
        rw [if_pos (by omega)] at hx
        injection hx with hx; subst hx
        have e1 : c.getD j undef = z := by
          rw [hc, hzc, zeroCells_one]
          simp only [Array.getD_eq_getD_getElem?]
          rw [Array.getElem?_append_right (by simp [hnl, ← hes]; omega)]
          have : j - news.toArray.size < grownCap w ps.length 0 e - ps.length := by simp [hnl, ← hes]; omega
          rw [Array.getElem?_replicate, if_pos this]
          rfl
        rw [e1]
        exact .pv (.val _))
    have hv := VR.sl (g := g.named σ.next w.heap.size 0 false) (k := σ.next + 1) (n := σ.next) (off := 0) (len := ps.length) (cap := grownCap w ps.length 0 e) (by omega)
    simp only [Oper.wp, hx, Oper.upon]
    refine ⟨_, _, _, _, rfl, Ghost.le_named _ _ _ _ _, Nat.le_succ _, hN, ?_, hK _ hge hle⟩
    simpa [Ghost.named, upd, Store.newObj] using hv
  generalize hev : a.eval x = v at h1
  cases h1 with
  | full hx' =>
    obtain ⟨olds, hfo, hv0⟩ := hx'.flat
    have ho0 : olds = [] := List.eq_nil_of_length_eq_zero (by rw [hfo.len]; simp)
    subst ho0
    rename_i ad
    cases ad with
    | none =>
      have hr := run_append_nil (P := P) w t o.type e i z' hu hi hz' ⟨bb, oo, none⟩ ps.length cc news hnl hcell h0 (by simp [maxLen] at h63; omega) (by omega)
      refine fin _ rfl ?_
      unfold execOp
      simp [ho, resolve, invoke, builtin, hev, hsrc, hr]
    | some ad =>
      have hr := run_append_grow (P := P) w t o.type e i z' hu hi hz' ad 0 0 [] (by simp) (by simp) ⟨bb, oo, none⟩ ps.length cc news hnl hcell (by omega) (by simp [maxLen] at h63; omega) (growslice_fits (by omega) (by simpa using h47))
      simp only [Nat.zero_add] at hr
      refine fin _ rfl ?_
      unfold execOp
      simp [ho, resolve, invoke, builtin, hev, hsrc, hr]
end Go.Proofs.Ytnanpamfdjnomaa.AL
namespace Go.Proofs.Ytnanpamfdjnomaa.AL
open Go Go.RowKit
/-- A block that may be written, told by less. -/
theorem RelS.leObj {F : Base} {g : Ghost} {σ : Store} {w : World} (h : RelS F g σ w) {n : Nat} {cs ds : List AV} (hn : σ.objs n = some cs) (hl : cs.length = ds.length) (hle : ∀ (i : Nat) (x y : AV), cs[i]? = some x → ds[i]? = some y → Le x y) : RelS F g (σ.setObj n ds) w := by
  have ho : ∀ m, ((σ.setObj n ds).objs m).isSome → (σ.objs m).isSome := fun m hm => by simp only [Store.setObj] at hm; by_cases q : m = n <;> simp_all
  refine ⟨h.below, h.base, h.imm, fun m es hm => ?_, h.tok, fun a b ha hb => h.inj a b (ho a ha) (ho b hb), h.injt, fun a t ha => h.apart a t (ho a ha)⟩
  simp only [Store.setObj] at hm ⊢
  by_cases q : m = n
  · subst q
    simp only [if_true, Option.some.injEq] at hm
    subst hm
    obtain ⟨h1, h2, h3, c, e, h4, h5, h6⟩ := h.obj m cs hn
    refine ⟨h1, h2, h3, c, e, h4, by omega, fun i y hy => ?_⟩
    have hi : i < cs.length := by have := getElem?_lt hy; omega
    exact hle i cs[i] y (List.getElem?_eq_getElem hi) hy _ _ _ (h6 i _ (List.getElem?_eq_getElem hi))
  · rw [if_neg q] at hm; exact h.obj m es hm
theorem WeakV.leObj {k0 : Nat} {x y : AV} {σ : Store} {n : Nat} {cs ds : List AV} (hn : σ.objs n = some cs) (hl : cs.length = ds.length) (hle : ∀ (i : Nat) (x y : AV), cs[i]? = some x → ds[i]? = some y → Le x y) (hx : Le x y) : WeakV k0 x σ y (σ.setObj n ds) :=
  fun F g w v hS hv hk => ⟨hk, g, .refl _ _, hS.leObj hn hl hle, hx _ _ _ hv⟩
theorem Weak.leObj {N k0 : Nat} {env : Env} {σ : Store} {n : Nat} {cs ds : List AV} (hn : σ.objs n = some cs) (hl : cs.length = ds.length) (hle : ∀ (i : Nat) (x y : AV), cs[i]? = some x → ds[i]? = some y → Le x y) : Weak N k0 env σ env (σ.setObj n ds) :=
  fun F g a w hS hE hk => ⟨hk, g, .refl _ _, hS.leObj hn hl hle, hE⟩
theorem le2 {a b a' b' : AV} (h1 : Le a a') (h2 : Le b b') : ∀ (i : Nat) (x y : AV), [a, b][i]? = some x → [a', b'][i]? = some y → Le x y := fun i x y hx hy => by
  match i, hx, hy with
  | 0, hx, hy => simp at hx hy; subst hx; subst hy; exact h1
  | 1, hx, hy => simp at hx hy; subst hx; subst hy; exact h2
  | n + 2, hx, hy => simp at hx
theorem setObj_setObj (σ : Store) (n : Nat) (cs ds : List AV) : (σ.setObj n cs).setObj n ds = σ.setObj n ds := by
  unfold Store.setObj
  simp only [Store.mk.injEq, and_true]
  funext m
  by_cases q : m = n <;> simp [q]
theorem Le.tup2 {a b a' b' : AV} (h1 : Le a a') (h2 : Le b b') : Le (.tup [a, b]) (.tup [a', b']) := fun g k v hv => by
  cases hv with
  | tup vs hs hx =>
    refine .tup vs (by simpa using hs) fun j y hy => ?_
    match j, hy with
    | 0, hy => simp at hy; subst hy; exact h1 _ _ _ (hx 0 a rfl)
    | 1, hy => simp at hy; subst hy; exact h2 _ _ _ (hx 1 b rfl)
    | n + 2, hy => simp at hy
theorem Le.agg5 {a b c d e a' b' c' d' e' : AV} (h1 : Le a a') (h2 : Le b b') (h3 : Le c c') (h4 : Le d d') (h5 : Le e e') : Le (.agg [a, b, c, d, e]) (.agg [a', b', c', d', e']) := by
  refine Le.agg rfl fun i x y hx hy => ?_
  match i, hx, hy with
  | 0, hx, hy => simp at hx hy; subst hx; subst hy; exact h1
  | 1, hx, hy => simp at hx hy; subst hx; subst hy; exact h2
  | 2, hx, hy => simp at hx hy; subst hx; subst hy; exact h3
  | 3, hx, hy => simp at hx hy; subst hx; subst hy; exact h4
  | 4, hx, hy => simp at hx hy; subst hx; subst hy; exact h5
  | n + 5, hx, hy => simp at hx
end Go.Proofs.Ytnanpamfdjnomaa.AL
namespace Go.Proofs.Ytnanpamfdjnomaa.AL
open Go Go.RowKit
theorem ACalls.weak {P : Program} {f : FuncId} {args : List AV} {σ : Store} {R R' : AV → Store → Prop} (h : ACalls P f args σ R) (hr : σ.Wf → ∀ x s, R x s → ∃ x' s', WeakV σ.next x s x' s' ∧ R' x' s') : ACalls P f args σ R' :=
  fun F g w vals hS hs hv => (h F g w vals hS hs hv).mono fun _ _ ⟨v, x, σ', g', h1, h2, h3, h4, h5, h6⟩ => by
    obtain ⟨x', s', hw, hR⟩ := hr hS.wf x σ' h6
    obtain ⟨k, g'', i1, i2, i3⟩ := hw F g' _ v h4 h5 h3
    exact ⟨v, x', s', g'', h1, h2.trans i1, k, i2, i3, hR⟩
end Go.Proofs.Ytnanpamfdjnomaa.AL
namespace Go.Proofs.Ytnanpamfdjnomaa.AL
open Go Go.RowKit
theorem AOp.weak {P : Program} {N : Nat} {o : Oper} {env : Env} {σ : Store} {K K' : AV → Store → Prop} (h : AOp P N o env σ K) (hr : σ.Wf → ∀ x s, K x s → ∃ x' s', WeakV σ.next x s x' s' ∧ K' x' s') : AOp P N o env σ K' :=
  fun F g a w hS hE Q => (Oper.wp_mono fun a' w' ⟨v, x, σ', g', h1, h2, h3, h4, h5, h6⟩ => by
    obtain ⟨x', s', hw, hR⟩ := hr hS.wf x σ' h6
    obtain ⟨k, g'', i1, i2, i3⟩ := hw F g' _ v h4 h5 h3
    exact ⟨v, x', s', g'', h1, h2.trans i1, k, i2, i3, hR⟩) (h F g a w hS hE Q)
/-- Append onto nothing, told as a list. -/
theorem AOpc.appList {P : Program} {N : Nat} {env : Env} {σ : Store} {K : AV → Store → Prop} {x y : Operand} {t e : TypeId} {es b : Nat} {ys : List (List PV)} (ht : tSl P t = some (e, es, b)) (hx : evalA env x = .full es []) (hy : (evalA env y).list? es = some ys)
    (h47 : ys.length * b ≤ 140737488355328) (h63 : ys.length ≤ maxLen) (hK : K (.pv (.lst es ys)) σ) : AOpc P N (.call { callee := .builtin .append, args := #[x, y], argTypes := #[t, t] }) env σ K := by
  have h : AOpc P N (.call { callee := .builtin .append, args := #[x, y], argTypes := #[t, t] }) env σ (fun v s => v = .row σ.next es ys ∧ s = σ.newTok e es ys.length) := by
    refine AOpc.of_aop ?_
    have hex : exA P (.call { callee := .builtin .append, args := #[x, y], argTypes := #[t, t] }) env σ = some ((0 + ys.length) * b ≤ 140737488355328 ∧ 0 + ys.length ≤ maxLen, .row σ.next es ys, σ.newTok e es (0 + ys.length)) := by
      simp only [exA, builtinA, List.map_cons, List.map_nil, appA, if_true, ht, hy, hx, List.length_nil, List.nil_append]
    unfold aop
    rw [hex]
    exact ⟨by rw [Nat.zero_add]; exact ⟨h47, h63⟩, rfl, by rw [Nat.zero_add]⟩
  exact fun o ho => (h o ho).weak fun hwf v s ⟨h1, h2⟩ => by
    subst h1; subst h2
    exact ⟨_, _, WeakV.none hwf ((Agree.refl _).newTok _ _ _) (.list' (es := es) (by simp [AV.list?]) rfl), hK⟩
section
variable {P : Program} {N : Nat} {ops : Array Oper} {chain : List Nat} {os : List Oper} {i : Nat} {env : Env} {σ : Store} {lds : List (Op × Env × AV)} {prs : List Store} {K : Env → Store → Prop}
  {dst : Option Nat} {ty : TypeId} {pos : String} {after : Array Edge}
theorem dregFn_app {args : Array Operand} {ts : Array TypeId} {x : AV} (hx : ∀ τ, AOpc P N (.call { callee := .builtin .append, args := args, argTypes := ts }) (lk env args.toList) τ (fun y τ' => y = x ∧ τ' = τ))
    (hc : chain.contains i = false) (hd : dOk N dst = true) (k : dreg P N ops chain os (i + 1) (env.put dst x) σ lds prs K) :
    dregFn P N ops chain { dst := dst, op := .call { callee := .builtin .append, args := args, argTypes := ts }, type := ty, pos := pos, after := after, guard := none } os i env σ lds prs K := by
  unfold dregFn
  simp only [dreg, guardA, hc, isLoad, isFn]
  refine ⟨hd, (fun h => (by cases h)), fun _ => ?_⟩
  rw [if_neg (by decide), if_neg (by decide), if_pos trivial]
  refine ⟨x, fun τ => ?_, k⟩
  have hl : look (.call { callee := .builtin .append, args := args, argTypes := ts }) env = lk env args.toList := look_builtin _ _ _ _
  rw [hl]
  exact hx τ
end
end Go.Proofs.Ytnanpamfdjnomaa.AL
namespace Go.Proofs.Ytnanpamfdjnomaa.AL
open Go Go.RowKit
/-- A choice of which the answer is known. -/
theorem AWPc.cond {P : Program} {N k0 : Nat} {c : Operand} {x y : AC} {env : Env} {σ : Store} {Q : Exit → Env → Store → Prop} (b : Bool) (h : evalA env c = .bool b) (k : AWPc P N k0 (bif b then x else y) env σ Q) : AWPc P N k0 (.cond c x y) env σ Q := by
  intro cd hc
  cases cd with
  | cond c' a d =>
    simp only [comp] at hc
    injection hc with h1 h2 h3
    subst h1
    intro F g ac w hS hE hk
    have hv := hE.eval c'
    rw [h] at hv
    refine wp_cond hv.val_eq ?_
    cases b with
    | true => exact k a h2 F g ac w hS hE hk
    | false => exact k d h3 F g ac w hS hE hk
  | region id ops d =>
    cases d with
    | false =>
      simp only [comp] at hc
      split at hc <;> cases hc
    | true => cases hc
  | _ => cases hc
end Go.Proofs.Ytnanpamfdjnomaa.AL
