/- AL: what the steps of a walk do to the store. -/
import Derived.Test.YtnanpamfdjnomaaALWp
namespace Go.Proofs.Ytnanpamfdjnomaa.AL
open Go Go.RowKit

theorem VR.lt {g : Ghost} {k : Nat} {x : AV} {v : Value} (r : VR g k x v) : AV.Lt k x := by
  induction r with
  | any v => exact .any
  | pv r => exact .pv _
  | rowfull ht hp r => exact .row ht
  | row ht hp r => exact .row ht
  | full r => exact .full _ _
  | ptr hn => exact .ptr hn
  | sl hn => exact .sl hn
  | ia vs hI hV => exact .ia _ _
  | @agg cs vs hs _ ih => exact .agg fun x hx => by obtain ⟨j, hj⟩ := List.getElem?_of_mem hx; exact ih j x hj
  | @tup cs vs hs _ ih => exact .tup fun x hx => by obtain ⟨j, hj⟩ := List.getElem?_of_mem hx; exact ih j x hj

def Store.setObj (σ : Store) (n : Nat) (cs : List AV) : Store := { σ with objs := fun m => if m = n then some cs else σ.objs m }
def Store.newObj (σ : Store) (cs : List AV) : Store := { σ with objs := fun m => if m = σ.next then some cs else σ.objs m, next := σ.next + 1 }
def Store.newTok (σ : Store) (e : TypeId) (es m : Nat) : Store := { σ with toks := fun t => if t = σ.next then some (e, es, m) else σ.toks t, next := σ.next + 1 }
def Store.killTok (σ : Store) (t : Nat) : Store := { σ with toks := fun s => if s = t then none else σ.toks s }
def Store.trunc (σ : Store) (k : Nat) : Store := { objs := fun n => if n < k then σ.objs n else none, toks := fun t => if t < k then σ.toks t else none, next := k }

theorem heap_lt {w : World} {b : Nat} {o : Obj} (h : w.heap[b]? = some o) : b < w.heap.size := by
  rcases Nat.lt_or_ge b w.heap.size with h' | h'
  · exact h'
  · rw [Array.getElem?_eq_none h'] at h; cases h

theorem RelS.Inone {F : Base} {g : Ghost} {σ : Store} {w : World} (h : RelS F g σ w) (b o : Nat) (hb : w.heap.size ≤ b) : g.I b o = none := by
  cases hi : g.I b o with
  | none => rfl
  | some v =>
    have := h.imm b o v hi
    have := World.block_lt_of_cell? w _ this
    simp at this; omega

theorem RelS.drew {F : Base} {g : Ghost} {σ : Store} {w : World} (h : RelS F g σ w) : RelS F g σ w.drew :=
  ⟨h.below.drew, h.base, h.imm, h.obj, h.tok, h.inj, h.injt, h.apart⟩

theorem heap_alloc_lt {w : World} {o x : Obj} {b : Nat} (h : w.heap[b]? = some x) : (w.alloc o).heap[b]? = some x := by
  rw [Below.heap_alloc _ _ _ (heap_lt h)]; exact h

theorem RelS.alloc {F : Base} {g : Ghost} {σ : Store} {w : World} (h : RelS F g σ w) (o : Obj) : RelS F g σ (w.alloc o) := by
  refine ⟨h.below.alloc h.base o, Nat.le_trans h.base (by simp), fun b o' v hi => ?_, fun n cs hn => ?_, fun t e es m ht => ?_, h.inj, h.injt, h.apart⟩
  · have := h.imm b o' v hi
    rw [World.cell?_alloc_lt _ _ _ (World.block_lt_of_cell? w _ this)]; exact this
  · obtain ⟨h1, h2, h3, c, e, h4, h5, h6⟩ := h.obj n cs hn
    exact ⟨h1, h2, h3, c, e, heap_alloc_lt h4, h5, h6⟩
  · obtain ⟨h1, h2⟩ := h.tok t e es m ht
    refine ⟨h1, fun hp => ?_⟩
    obtain ⟨i1, i2, c, e', i3, i4⟩ := h2 hp
    exact ⟨i1, i2, c, e', heap_alloc_lt i3, i4⟩

theorem RelS.mono_next {F : Base} {g : Ghost} {σ : Store} {w : World} (h : RelS F g σ w) {k : Nat} (hk : σ.next ≤ k) : RelS F g { σ with next := k } w := by
  refine ⟨h.below, h.base, h.imm, fun n cs hn => ?_, fun t e es m ht => ?_, h.inj, h.injt, h.apart⟩
  · obtain ⟨h1, h2, h3, c, e, h4, h5, h6⟩ := h.obj n cs hn
    exact ⟨Nat.lt_of_lt_of_le h1 hk, h2, h3, c, e, h4, h5, fun i x hx => (h6 i x hx).mono (.refl _ _) hk⟩
  · obtain ⟨h1, h2⟩ := h.tok t e es m ht
    exact ⟨Nat.lt_of_lt_of_le h1 hk, h2⟩

/-- A change of the ghost's names from σ.next on. -/
theorem RelS.ghost {F : Base} {g g' : Ghost} {σ : Store} {w : World} (h : RelS F g σ w) (hI : g'.I = g.I) (hg : Ghost.le σ.next g g') : RelS F g' σ w := by
  refine ⟨h.below, h.base, by rw [hI]; exact h.imm, fun n cs hn => ?_, fun t e es m ht => ?_, fun m n hm hn he => ?_, fun s t hs ht ps pt he => ?_, fun n t hn ht pt => ?_⟩
  · obtain ⟨h1, h2, h3, c, e, h4, h5, h6⟩ := h.obj n cs hn
    rw [hg.φ n h1, hI]
    exact ⟨h1, h2, h3, c, e, h4, h5, fun i x hx => (h6 i x hx).mono hg (Nat.le_refl _)⟩
  · obtain ⟨h1, h2⟩ := h.tok t e es m ht
    rw [hg.φ t h1, hg.ph t h1, hg.cap t h1, hI]
    exact ⟨h1, h2⟩
  · obtain ⟨cm, hcm⟩ := Option.isSome_iff_exists.1 hm
    obtain ⟨cn, hcn⟩ := Option.isSome_iff_exists.1 hn
    rw [hg.φ m (h.obj m cm hcm).1, hg.φ n (h.obj n cn hcn).1] at he
    exact h.inj m n hm hn he
  · obtain ⟨⟨e1, es1, m1⟩, h1⟩ := Option.isSome_iff_exists.1 hs
    obtain ⟨⟨e2, es2, m2⟩, h2⟩ := Option.isSome_iff_exists.1 ht
    have l1 := (h.tok s _ _ _ h1).1
    have l2 := (h.tok t _ _ _ h2).1
    rw [hg.ph s l1] at ps
    rw [hg.ph t l2] at pt
    rw [hg.φ s l1, hg.φ t l2] at he
    exact h.injt s t hs ht ps pt he
  · obtain ⟨cn, hcn⟩ := Option.isSome_iff_exists.1 hn
    obtain ⟨⟨e2, es2, m2⟩, h2⟩ := Option.isSome_iff_exists.1 ht
    have l1 := (h.obj n _ hcn).1
    have l2 := (h.tok t _ _ _ h2).1
    rw [hg.ph t l2] at pt
    rw [hg.φ n l1, hg.φ t l2]
    exact h.apart n t hn ht pt

def upd {α : Type} (f : Nat → α) (n : Nat) (x : α) : Nat → α := fun m => if m = n then x else f m
theorem upd_same {α : Type} (f : Nat → α) (n : Nat) (x : α) : upd f n x n = x := by simp [upd]
theorem upd_ne {α : Type} (f : Nat → α) (n : Nat) (x : α) {m : Nat} (h : m ≠ n) : upd f n x m = f m := by simp [upd, h]

def Ghost.named (g : Ghost) (n b cap : Nat) (ph : Bool) : Ghost := { g with φ := upd g.φ n b, cap := upd g.cap n cap, ph := upd g.ph n ph }
theorem Ghost.le_named (g : Ghost) (n b cap : Nat) (ph : Bool) : Ghost.le n g (g.named n b cap ph) :=
  ⟨Imm.le_refl _, fun m hm => upd_ne _ _ _ (by omega), fun m hm => upd_ne _ _ _ (by omega), fun m hm => upd_ne _ _ _ (by omega)⟩

/-- A new block that may be written. -/
theorem RelS.newObj {F : Base} {g : Ghost} {σ : Store} {w : World} (h : RelS F g σ w) (c : Array Value) (e : TypeId) (cs : List AV) (hc : c.size = cs.length)
    (hv : ∀ (i : Nat) (x : AV), cs[i]? = some x → VR g σ.next x (c.getD i undef)) :
    RelS F (g.named σ.next w.heap.size 0 false) (σ.newObj cs) (w.alloc (.cells c e)) := by
  have hle := Ghost.le_named g σ.next w.heap.size 0 false
  have h' := ((h.alloc (.cells c e)).ghost (g' := g.named σ.next w.heap.size 0 false) rfl hle).mono_next (k := σ.next + 1) (by omega)
  have hnew : ∀ n, (σ.objs n).isSome → n ≠ σ.next ∧ g.φ n < w.heap.size := fun n hn => by
    obtain ⟨d, hd⟩ := Option.isSome_iff_exists.1 hn
    obtain ⟨h1, _, _, c, e, h4, _⟩ := h.obj n d hd
    exact ⟨by omega, heap_lt h4⟩
  have hnewt : ∀ t, (σ.toks t).isSome → t ≠ σ.next ∧ (g.ph t = false → g.φ t < w.heap.size) := fun t ht => by
    obtain ⟨⟨e1, es1, m1⟩, h1⟩ := Option.isSome_iff_exists.1 ht
    obtain ⟨h2, h3⟩ := h.tok t _ _ _ h1
    refine ⟨by omega, fun hp => ?_⟩
    obtain ⟨_, _, c, _, i3, _⟩ := h3 hp
    exact heap_lt i3
  refine ⟨h'.below, h'.base, h'.imm, fun n ds hn => ?_, fun t e es m ht => ?_, fun m n hm hn he => ?_, h'.injt, fun n t hn ht pt => ?_⟩
  · simp only [Store.newObj] at hn ⊢
    by_cases hnn : n = σ.next
    · subst hnn
      simp only [if_true, Option.some.injEq] at hn
      subst hn
      refine ⟨by omega, by simp [Ghost.named, upd]; exact h.base, fun o => ?_, c, e, ?_, hc, fun i x hx => (hv i x hx).mono hle (by simp)⟩
      · simp only [Ghost.named, upd, if_true]
        exact h.Inone _ _ (Nat.le_refl _)
      · simp only [Ghost.named, upd, if_true]; exact heap_alloc_new w _
    · simp only [if_neg hnn] at hn
      exact h'.obj n ds hn
  · exact h'.tok t e es m ht
  · simp only [Store.newObj] at hm hn
    simp only [Ghost.named, upd] at he
    by_cases h1 : m = σ.next <;> by_cases h2 : n = σ.next
    · omega
    · rw [if_neg h2] at hn; have := hnew n hn; simp [h1, h2] at he; omega
    · rw [if_neg h1] at hm; have := hnew m hm; simp [h1, h2] at he; omega
    · rw [if_neg h1] at hm; rw [if_neg h2] at hn; simp only [h1, h2, if_false] at he; exact h.inj m n hm hn he
  · simp only [Store.newObj] at hn ht
    have h2 := hnewt t ht
    simp only [Ghost.named, upd, h2.1, if_false] at pt ⊢
    by_cases h1 : n = σ.next
    · have := h2.2 pt; simp [h1]; omega
    · rw [if_neg h1] at hn; simp only [h1, if_false]; exact h.apart n t hn ht pt

/-- A block that may be written, written. -/
theorem RelS.setObj {F : Base} {g : Ghost} {σ : Store} {w : World} (h : RelS F g σ w) {n : Nat} {old : List AV} (hn : σ.objs n = some old) (c : Array Value) (cs : List AV)
    (hc : c.size = cs.length) (hv : ∀ (i : Nat) (x : AV), cs[i]? = some x → VR g σ.next x (c.getD i undef)) :
    RelS F g (σ.setObj n cs) (w.setRow (g.φ n) c) := by
  obtain ⟨h1, h2, h3, c0, e0, h4, h5, h6⟩ := h.obj n old hn
  have hsz : (w.setRow (g.φ n) c).heap.size = w.heap.size := by simp [World.setRow]
  refine ⟨h.below.trans ⟨rfl, rfl, rfl, by rw [hsz]; exact Nat.le_refl _, fun k hk => setRow_other _ _ _ _ (by omega)⟩, by rw [hsz]; exact h.base, fun b o v hi => ?_, fun m ds hm => ?_, fun t e es m ht => ?_, fun m m' hm hm' he => ?_, h.injt, fun m t hm ht pt => ?_⟩
  · by_cases hb : b = g.φ n
    · subst hb; rw [h3 o] at hi; cases hi
    · rw [cell_setRow_other _ _ _ _ (by simpa using hb)]; exact h.imm b o v hi
  · simp only [Store.setObj] at hm ⊢
    by_cases hmn : m = n
    · subst hmn
      simp only [if_true, Option.some.injEq] at hm
      subst hm
      exact ⟨h1, h2, h3, c, e0, setRow_heap _ _ _ _ _ _ h4, hc, hv⟩
    · simp only [if_neg hmn] at hm
      obtain ⟨i1, i2, i3, d, e, i4, i5, i6⟩ := h.obj m ds hm
      have hne : g.φ m ≠ g.φ n := fun he => hmn (h.inj m n (by simp [hm]) (by simp [hn]) he)
      exact ⟨i1, i2, i3, d, e, by rw [setRow_other _ _ _ _ hne]; exact i4, i5, i6⟩
  · obtain ⟨i1, i2⟩ := h.tok t e es m ht
    refine ⟨i1, fun hp => ?_⟩
    obtain ⟨j1, j2, d, e', j3, j4⟩ := i2 hp
    have hne : g.φ t ≠ g.φ n := fun he => h.apart n t (by simp [hn]) (by simp only [Store.setObj] at ht; simp [ht]) hp he.symm
    exact ⟨j1, j2, d, e', by rw [setRow_other _ _ _ _ hne]; exact j3, j4⟩
  · simp only [Store.setObj] at hm hm'
    have k1 : (σ.objs m).isSome := by by_cases q : m = n <;> simp_all
    have k2 : (σ.objs m').isSome := by by_cases q : m' = n <;> simp_all
    exact h.inj m m' k1 k2 he
  · simp only [Store.setObj] at hm ht
    have k1 : (σ.objs m).isSome := by by_cases q : m = n <;> simp_all
    exact h.apart m t k1 ht pt

theorem RelS.killTok {F : Base} {g : Ghost} {σ : Store} {w : World} (h : RelS F g σ w) (t : Nat) : RelS F g (σ.killTok t) w := by
  have hk : ∀ s, ((σ.killTok t).toks s).isSome → (σ.toks s).isSome := fun s hs => by
    simp only [Store.killTok] at hs
    by_cases q : s = t <;> simp_all
  refine ⟨h.below, h.base, h.imm, h.obj, fun s e es m hs => ?_, h.inj, fun s s' hs hs' => h.injt s s' (hk s hs) (hk s' hs'), fun n s hn hs => h.apart n s hn (hk s hs)⟩
  simp only [Store.killTok] at hs
  by_cases q : s = t
  · simp [q] at hs
  · rw [if_neg q] at hs; exact h.tok s e es m hs

/-- Fewer names. -/
theorem RelS.trunc {F : Base} {g : Ghost} {σ : Store} {w : World} (h : RelS F g σ w) {k : Nat} (hlt : ∀ n cs, n < k → σ.objs n = some cs → ∀ x ∈ cs, AV.Lt k x) : RelS F g (σ.trunc k) w := by
  have ho : ∀ n, ((σ.trunc k).objs n).isSome → (σ.objs n).isSome := fun n hn => by simp only [Store.trunc] at hn; by_cases q : n < k <;> simp_all
  have ht : ∀ n, ((σ.trunc k).toks n).isSome → (σ.toks n).isSome := fun n hn => by simp only [Store.trunc] at hn; by_cases q : n < k <;> simp_all
  refine ⟨h.below, h.base, h.imm, fun n cs hn => ?_, fun t e es m hm => ?_, fun m n hm hn => h.inj m n (ho m hm) (ho n hn), fun s t hs hs' => h.injt s t (ht s hs) (ht t hs'), fun n t hn hs => h.apart n t (ho n hn) (ht t hs)⟩
  · simp only [Store.trunc] at hn
    by_cases q : n < k
    · rw [if_pos q] at hn
      obtain ⟨h1, h2, h3, c, e, h4, h5, h6⟩ := h.obj n cs hn
      exact ⟨q, h2, h3, c, e, h4, h5, fun i x hx => (h6 i x hx).lower (hlt n cs q hn x (List.mem_of_getElem? hx))⟩
    · simp [q] at hn
  · simp only [Store.trunc] at hm
    by_cases q : t < k
    · rw [if_pos q] at hm
      obtain ⟨h1, h2⟩ := h.tok t e es m hm
      exact ⟨q, h2⟩
    · simp [q] at hm
end Go.Proofs.Ytnanpamfdjnomaa.AL
