/- AL: rows that grow. -/
import Derived.Test.YtnanpamfdjnomaaALStore
namespace Go.Proofs.Ytnanpamfdjnomaa.AL
open Go Go.RowKit

def Imm.add (I : Imm) (b lo : Nat) (cs : List Value) : Imm := fun b' o => if b' = b ∧ lo ≤ o ∧ o < lo + cs.length then cs[o - lo]? else I b' o

theorem Imm.le_add {I : Imm} {b lo : Nat} {cs : List Value} (h : ∀ o, lo ≤ o → o < lo + cs.length → I b o = none) : Imm.le I (I.add b lo cs) := by
  intro b' o v hv
  unfold Imm.add
  by_cases hc : b' = b ∧ lo ≤ o ∧ o < lo + cs.length
  · obtain ⟨rfl, h1, h2⟩ := hc
    rw [h o h1 h2] at hv; cases hv
  · rw [if_neg hc]; exact hv

theorem Imm.add_at {I : Imm} {b lo : Nat} {cs : List Value} {j : Nat} {v : Value} (h : cs[j]? = some v) : I.add b lo cs b (lo + j) = some v := by
  have hj : j < cs.length := by
    rcases Nat.lt_or_ge j cs.length with h' | h'
    · exact h'
    · rw [List.getElem?_eq_none h'] at h; cases h
  unfold Imm.add
  rw [if_pos ⟨rfl, by omega, by omega⟩]
  simpa using h

theorem Imm.add_other {I : Imm} {b lo : Nat} {cs : List Value} {b' o : Nat} (h : b' ≠ b ∨ o < lo ∨ lo + cs.length ≤ o) : I.add b lo cs b' o = I b' o := by
  unfold Imm.add
  rw [if_neg (by omega)]

def Ghost.withI (g : Ghost) (J : Imm) : Ghost := { g with I := J }

/-- Cells that are there and that nobody may write are held for good. -/
theorem RelS.addI {F : Base} {g : Ghost} {σ : Store} {w : World} (h : RelS F g σ w) (b lo : Nat) (cs : List Value) (hcell : ∀ j v, cs[j]? = some v → w.cell? ⟨b, lo + j, none⟩ = some v)
    (hobj : ∀ n, (σ.objs n).isSome → g.φ n ≠ b) (htok : ∀ t, (σ.toks t).isSome → g.ph t = false → g.φ t ≠ b)
    (hle : Imm.le g.I (g.I.add b lo cs)) : RelS F (g.withI (g.I.add b lo cs)) σ w := by
  have hg : Ghost.le σ.next g (g.withI (g.I.add b lo cs)) := ⟨hle, fun _ _ => rfl, fun _ _ => rfl, fun _ _ => rfl⟩
  refine ⟨h.below, h.base, fun b' o v hv => ?_, fun n ds hn => ?_, fun t e es m ht => ?_, h.inj, h.injt, h.apart⟩
  · simp only [Ghost.withI] at hv
    by_cases hc : b' = b ∧ lo ≤ o ∧ o < lo + cs.length
    · obtain ⟨rfl, h1, h2⟩ := hc
      have hv' : cs[o - lo]? = some v := by
        unfold Imm.add at hv
        rwa [if_pos ⟨rfl, h1, h2⟩] at hv
      have := hcell _ _ hv'
      rwa [show lo + (o - lo) = o by omega] at this
    · unfold Imm.add at hv
      rw [if_neg hc] at hv
      exact h.imm b' o v hv
  · obtain ⟨h1, h2, h3, c, e, h4, h5, h6⟩ := h.obj n ds hn
    refine ⟨h1, h2, fun o => ?_, c, e, h4, h5, fun i x hx => (h6 i x hx).mono hg (Nat.le_refl _)⟩
    simp only [Ghost.withI]
    rw [Imm.add_other (.inl (hobj n (by simp [hn])))]
    exact h3 o
  · obtain ⟨h1, h2⟩ := h.tok t e es m ht
    refine ⟨h1, fun hp => ?_⟩
    obtain ⟨i1, i2, c, e', i3, i4⟩ := h2 hp
    refine ⟨i1, fun o ho => ?_, c, e', i3, i4⟩
    simp only [Ghost.withI]
    rw [Imm.add_other (.inl (htok t (by simp [ht]) hp))]
    exact i2 o ho

/-- A new token, for a value whose room is used up. -/
theorem RelS.newFull {F : Base} {g : Ghost} {σ : Store} {w : World} (h : RelS F g σ w) (e : TypeId) (es m : Nat) : RelS F (g.named σ.next 0 0 true) (σ.newTok e es m) w := by
  have hle := Ghost.le_named g σ.next 0 0 true
  have h' := (h.ghost (g' := g.named σ.next 0 0 true) rfl hle).mono_next (k := σ.next + 1) (by omega)
  have hk : ∀ t, ((σ.newTok e es m).toks t).isSome → (g.named σ.next 0 0 true).ph t = false → (σ.toks t).isSome := fun t ht hp => by
    simp only [Store.newTok] at ht
    by_cases q : t = σ.next
    · subst q; simp [Ghost.named, upd] at hp
    · rwa [if_neg q] at ht
  refine ⟨h'.below, h'.base, h'.imm, h'.obj, fun t e' es' m' ht => ?_, h'.inj, fun s t hs ht ps pt => h'.injt s t (hk s hs ps) (hk t ht pt) ps pt, fun n t hn ht pt => h'.apart n t hn (hk t ht pt) pt⟩
  simp only [Store.newTok] at ht ⊢
  by_cases q : t = σ.next
  · subst q
    exact ⟨by omega, fun hp => by simp [Ghost.named, upd] at hp⟩
  · rw [if_neg q] at ht
    exact h'.tok t e' es' m' ht

/-- A new token on a block that nobody else may write. -/
theorem RelS.newTok {F : Base} {g : Ghost} {σ : Store} {w : World} (h : RelS F g σ w) (b : Nat) (c : Array Value) (e e' : TypeId) (es m cap : Nat) (hb : w.heap[b]? = some (.cells c e' (0, 0))) (hB : F.B ≤ b)
    (hc : c.size = cap * es) (hm : m ≤ cap) (hcap : cap ≤ maxLen) (hI : ∀ o, m * es ≤ o → g.I b o = none)
    (hobj : ∀ n, (σ.objs n).isSome → g.φ n ≠ b) (htok : ∀ t, (σ.toks t).isSome → g.ph t = false → g.φ t ≠ b) : RelS F (g.named σ.next b cap false) (σ.newTok e es m) w := by
  have hle := Ghost.le_named g σ.next b cap false
  have h' := (h.ghost (g' := g.named σ.next b cap false) rfl hle).mono_next (k := σ.next + 1) (by omega)
  have hlt : ∀ t, (σ.toks t).isSome → t ≠ σ.next := fun t ht => by
    obtain ⟨⟨e1, es1, m1⟩, h1⟩ := Option.isSome_iff_exists.1 ht
    have := (h.tok t _ _ _ h1).1
    omega
  have hlto : ∀ n, (σ.objs n).isSome → n ≠ σ.next := fun t ht => by
    obtain ⟨d, h1⟩ := Option.isSome_iff_exists.1 ht
    have := (h.obj t _ h1).1
    omega
  refine ⟨h'.below, h'.base, h'.imm, h'.obj, fun t e₂ es' m' ht => ?_, h'.inj, fun s t hs ht ps pt he => ?_, fun n t hn ht pt => ?_⟩
  · simp only [Store.newTok] at ht ⊢
    by_cases q : t = σ.next
    · subst q
      simp only [if_true, Option.some.injEq, Prod.mk.injEq] at ht
      obtain ⟨rfl, rfl, rfl⟩ := ht
      refine ⟨by omega, fun _ => ?_⟩
      simp only [Ghost.named, upd, if_true]
      exact ⟨hB, hI, c, e', hb, hc, hm, hcap⟩
    · rw [if_neg q] at ht
      exact h'.tok t e₂ es' m' ht
  · simp only [Store.newTok] at hs ht
    simp only [Ghost.named, upd] at ps pt he
    by_cases q1 : s = σ.next <;> by_cases q2 : t = σ.next
    · omega
    · rw [if_neg q2] at ht; simp only [q1, q2, if_true, if_false] at pt he; exact absurd he.symm (htok t ht pt)
    · rw [if_neg q1] at hs; simp only [q1, q2, if_true, if_false] at ps he; exact absurd he (htok s hs ps)
    · rw [if_neg q1] at hs; rw [if_neg q2] at ht; simp only [q1, q2, if_false] at ps pt he; exact h.injt s t hs ht ps pt he
  · simp only [Store.newTok] at ht
    have hn' := hlto n hn
    simp only [Ghost.named, upd, hn', if_false] at pt ⊢
    by_cases q : t = σ.next
    · simp only [q, if_true]; exact hobj n hn
    · rw [if_neg q] at ht; simp only [q, if_false] at pt ⊢; exact h.apart n t hn ht pt

/-- A block that nobody's token or object is: its cells that nobody holds are written. -/
theorem RelS.setRow {F : Base} {g : Ghost} {σ : Store} {w : World} (h : RelS F g σ w) (b : Nat) (c d : Array Value) (e : TypeId) (hb : w.heap[b]? = some (.cells c e (0, 0))) (hB : F.B ≤ b)
    (hI : ∀ o v, g.I b o = some v → d[o]? = some v)
    (hobj : ∀ n, (σ.objs n).isSome → g.φ n ≠ b) (htok : ∀ t, (σ.toks t).isSome → g.ph t = false → g.φ t ≠ b) : RelS F g σ (w.setRow b d) := by
  have hsz : (w.setRow b d).heap.size = w.heap.size := by simp [World.setRow]
  refine ⟨h.below.trans ⟨rfl, rfl, rfl, by rw [hsz]; exact Nat.le_refl _, fun k hk => setRow_other _ _ _ _ (by omega)⟩, by rw [hsz]; exact h.base, fun b' o v hi => ?_, fun n ds hn => ?_, fun t e' es m ht => ?_, h.inj, h.injt, h.apart⟩
  · by_cases hb' : b' = b
    · subst hb'; rw [cell_setRow_same _ _ _ _ _ _ _ hb]; exact hI o v hi
    · rw [cell_setRow_other _ _ _ _ (by simpa using hb')]; exact h.imm b' o v hi
  · obtain ⟨i1, i2, i3, c', e', i4, i5, i6⟩ := h.obj n ds hn
    exact ⟨i1, i2, i3, c', e', by rw [setRow_other _ _ _ _ (hobj n (by simp [hn]))]; exact i4, i5, i6⟩
  · obtain ⟨i1, i2⟩ := h.tok t e' es m ht
    refine ⟨i1, fun hp => ?_⟩
    obtain ⟨j1, j2, c', e₂, j3, j4⟩ := i2 hp
    exact ⟨j1, j2, c', e₂, by rw [setRow_other _ _ _ _ (htok t (by simp [ht]) hp)]; exact j3, j4⟩

theorem RelS.fresh {F : Base} {g : Ghost} {σ : Store} {w : World} (h : RelS F g σ w) : (∀ n, (σ.objs n).isSome → g.φ n < w.heap.size) ∧ (∀ t, (σ.toks t).isSome → g.ph t = false → g.φ t < w.heap.size) := by
  refine ⟨fun n hn => ?_, fun t ht hp => ?_⟩
  · obtain ⟨d, hd⟩ := Option.isSome_iff_exists.1 hn
    obtain ⟨_, _, _, c, e, h4, _⟩ := h.obj n d hd
    exact heap_lt h4
  · obtain ⟨⟨e1, es1, m1⟩, h1⟩ := Option.isSome_iff_exists.1 ht
    obtain ⟨_, h3⟩ := h.tok t _ _ _ h1
    obtain ⟨_, _, c, _, i3, _⟩ := h3 hp
    exact heap_lt i3

/-- A new block of cells that nobody will write: a literal. -/
theorem RelS.newImm {F : Base} {g : Ghost} {σ : Store} {w : World} (h : RelS F g σ w) (c : Array Value) (e : TypeId) :
    RelS F (g.withI (g.I.add w.heap.size 0 c.toList)) σ (w.alloc (.cells c e)) ∧ Imm.le g.I (g.I.add w.heap.size 0 c.toList) := by
  have hle : Imm.le g.I (g.I.add w.heap.size 0 c.toList) := Imm.le_add fun o _ _ => h.Inone _ _ (Nat.le_refl _)
  refine ⟨(h.alloc (.cells c e)).addI w.heap.size 0 c.toList (fun j v hj => ?_) (fun n hn => Nat.ne_of_lt (h.fresh.1 n hn)) (fun t ht hp => Nat.ne_of_lt (h.fresh.2 t ht hp)) hle, hle⟩
  have := heap_alloc_new w (.cells c e)
  simp only [World.cell?, this, Nat.zero_add, Option.isSome_none, Bool.false_eq_true, if_false]
  simpa using hj
end Go.Proofs.Ytnanpamfdjnomaa.AL
