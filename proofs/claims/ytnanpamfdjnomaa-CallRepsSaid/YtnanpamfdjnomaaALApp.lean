/- AL: append. -/
import Derived.Test.YtnanpamfdjnomaaALTok
namespace Go.Proofs.Ytnanpamfdjnomaa.AL
open Go Go.RowKit

/-- The cells of a list's elements, one behind the other. -/
structure Flat (I : Imm) (es : Nat) (xs : List (List PV)) (cells : List Value) : Prop where
  len : cells.length = xs.length * es
  one : ∀ u ∈ cells, u.oneCell' = true
  wide : ∀ (i : Nat) (x : List PV), xs[i]? = some x → x.length = es
  el : ∀ (i : Nat) (x : List PV) (j : Nat) (y : PV), xs[i]? = some x → x[j]? = some y → VRp I y (cells.getD (i * es + j) undef)

theorem Flat.nil (I : Imm) (es : Nat) : Flat I es [] [] := ⟨by simp, by simp, by simp, by simp⟩

theorem Flat.mono {I J : Imm} (h : Imm.le I J) {es : Nat} {xs : List (List PV)} {cells : List Value} (r : Flat I es xs cells) : Flat J es xs cells :=
  ⟨r.len, r.one, r.wide, fun i x j y hx hy => (r.el i x j y hx hy).mono h⟩

theorem getElem?_lt {α : Type} {l : List α} {i : Nat} {x : α} (h : l[i]? = some x) : i < l.length := by
  rcases Nat.lt_or_ge i l.length with h' | h'
  · exact h'
  · rw [List.getElem?_eq_none h'] at h; cases h

theorem Flat.append {I : Imm} {es : Nat} {xs ys : List (List PV)} {c d : List Value} (h : Flat I es xs c) (k : Flat I es ys d) : Flat I es (xs ++ ys) (c ++ d) := by
  refine ⟨by rw [List.length_append, List.length_append, h.len, k.len, Nat.add_mul], fun u hu => ?_, fun i x hx => ?_, fun i x j y hx hy => ?_⟩
  · rcases List.mem_append.1 hu with hu | hu
    · exact h.one u hu
    · exact k.one u hu
  · by_cases hi : i < xs.length
    · rw [List.getElem?_append_left hi] at hx; exact h.wide i x hx
    · rw [List.getElem?_append_right (by omega)] at hx; exact k.wide _ x hx
  · by_cases hi : i < xs.length
    · rw [List.getElem?_append_left hi] at hx
      have hj : j < es := by have := h.wide i x hx; have := getElem?_lt hy; omega
      have hb : i * es + j < c.length := by rw [h.len]; have : (i + 1) * es ≤ xs.length * es := Nat.mul_le_mul_right _ hi; rw [Nat.add_mul] at this; omega
      have := h.el i x j y hx hy
      simp only [List.getD_eq_getElem?_getD, List.getElem?_append_left hb] at this ⊢
      exact this
    · rw [List.getElem?_append_right (by omega)] at hx
      have := k.el _ x j y hx hy
      have he : i * es + j = c.length + ((i - xs.length) * es + j) := by
        rw [h.len, Nat.sub_mul]
        have : xs.length * es ≤ i * es := Nat.mul_le_mul_right _ (by omega)
        omega
      simp only [List.getD_eq_getElem?_getD] at this ⊢
      rw [he, List.getElem?_append_right (by omega), Nat.add_sub_cancel_left]
      exact this

theorem VRp.flat {I : Imm} {es : Nat} {xs : List (List PV)} {v : Value} (h : VRp I (.lst es xs) v) : ∃ cells, Flat I es xs cells ∧
    ((v = .slice none 0 0 ∧ xs = []) ∨ (∃ a cap, a.spot ≠ none ∧ v = .slice (some a) 0 cap ∧ xs = []) ∨ ∃ b o cap, v = .slice (some ⟨b, o, none⟩) xs.length cap ∧ xs.length ≤ cap ∧ ∀ (j : Nat) (u : Value), cells[j]? = some u → I b (o + j) = some u) := by
  cases h with
  | nil => exact ⟨[], Flat.nil _ _, .inl ⟨rfl, rfl⟩⟩
  | emp es a cap =>
    refine ⟨[], Flat.nil _ _, .inr ?_⟩
    by_cases h : a.spot = none
    · obtain ⟨b, o, s⟩ := a
      dsimp only at h
      subst h
      exact .inr ⟨b, o, cap, rfl, Nat.zero_le _, by simp⟩
    · exact .inl ⟨a, cap, h, rfl, rfl⟩
  | lst es xs b o cap cells hcap hl h1 hx hI hV => exact ⟨cells, ⟨hl, h1, hx, hV⟩, .inr (.inr ⟨b, o, cap, rfl, hcap, hI⟩)⟩

theorem Flat.vrp {I : Imm} {es : Nat} {xs : List (List PV)} {cells : List Value} (h : Flat I es xs cells) {b o cap : Nat} (hcap : xs.length ≤ cap) (hI : ∀ (j : Nat) (u : Value), cells[j]? = some u → I b (o + j) = some u) :
    VRp I (.lst es xs) (.slice (some ⟨b, o, none⟩) xs.length cap) := .lst es xs b o cap cells hcap h.len h.one h.wide hI h.el

theorem run_append_zero {P : Program} (w : World) (t ty e : TypeId) (ht : P.underlying t = some (.slice e)) (i : TypeInfo) (hi : P.info? e = some i) (s : Option Addr) (a : Option Addr) (n cap c : Nat) (hn : n ≤ cap) :
    (Builtin.append_ #[t, t] ty #[.slice s n cap, .slice a 0 c]).run P w = .ok (.slice s n cap) w := by
  have hf : (Builtin.firstCells i.size 0 (.slice a 0 c)).run P w = .ok #[] w := by
    cases a <;> simp [Builtin.firstCells, loadCells, loadCellsFrom]
  cases s with
  | none => simp [Builtin.append_, run_underlying ht, sizeOf, typeInfo, hi, Builtin.lenOf, hn, hf]
  | some g => simp [Builtin.append_, run_underlying ht, sizeOf, typeInfo, hi, Builtin.lenOf, hn, hf, storeCells]

theorem Addr.add_mk (b o j : Nat) : (⟨b, o, none⟩ : Addr).add j = ⟨b, o + j, none⟩ := by unfold Addr.add; split <;> simp_all

/-- Append, where a new block is made. -/
theorem grow_rel {F : Base} {g : Ghost} {σ : Store} {w : World} (hS : RelS F g σ w) (e : TypeId) (es cap : Nat) (zs : List (List PV)) (cells rest : List Value)
    (hf : Flat g.I es zs cells) (hcap : zs.length ≤ cap) (hmax : cap ≤ maxLen) (hr : cells.length + rest.length = cap * es) :
    ∃ g', Ghost.le σ.next g g' ∧ RelS F g' (σ.newTok e es zs.length) (w.drew.alloc (.cells (cells ++ rest).toArray e)) ∧
      VR g' (σ.next + 1) (.row σ.next es zs) (.slice (some ⟨w.heap.size, 0, none⟩) zs.length cap) := by
  have hS1 := hS.drew.alloc (.cells (cells ++ rest).toArray e)
  have hnew : (w.drew.alloc (.cells (cells ++ rest).toArray e)).heap[w.heap.size]? = some (.cells (cells ++ rest).toArray e (0, 0)) := heap_alloc_new w.drew _
  have hle : Imm.le g.I (g.I.add w.heap.size 0 cells) := Imm.le_add fun o _ _ => hS.Inone _ _ (Nat.le_refl _)
  have hS2 := hS1.addI w.heap.size 0 cells (fun j v hj => by
    have hlt := getElem?_lt hj
    simp only [World.cell?, hnew, Nat.zero_add, Option.isSome_none, Bool.false_eq_true, if_false]
    simp [List.getElem?_append_left hlt, hj]) (fun n hn => Nat.ne_of_lt (hS.fresh.1 n hn)) (fun t ht hp => Nat.ne_of_lt (hS.fresh.2 t ht hp)) hle
  have hS3 := hS2.newTok w.heap.size (cells ++ rest).toArray e e es zs.length cap hnew hS.base (by simp [hr]) hcap hmax (fun o ho => by
    simp only [Ghost.withI]
    rw [Imm.add_other (.inr (.inr (by rw [hf.len]; omega)))]
    exact hS.Inone _ _ (Nat.le_refl _)) (fun n hn => Nat.ne_of_lt (hS.fresh.1 n hn)) (fun t ht hp => Nat.ne_of_lt (hS.fresh.2 t ht hp))
  have hg1 : Ghost.le σ.next g (g.withI (g.I.add w.heap.size 0 cells)) := ⟨hle, fun _ _ => rfl, fun _ _ => rfl, fun _ _ => rfl⟩
  refine ⟨_, hg1.trans (Ghost.le_named _ _ w.heap.size cap false), hS3, ?_⟩
  have hv := VR.row (g := (g.withI (g.I.add w.heap.size 0 cells)).named σ.next w.heap.size cap false) (k := σ.next + 1) (t := σ.next) (es := es) (xs := zs) (by omega) (by simp [Ghost.named, upd])
    (by simp only [Ghost.named, upd, if_true]; exact (hf.mono hle).vrp hcap (fun j u hj => Imm.add_at hj))
  simpa [Ghost.named, upd] using hv

/-- Append, in place. -/
theorem room_rel {F : Base} {g : Ghost} {σ : Store} {w : World} (hS : RelS F g σ w) {t : Nat} {e : TypeId} {es : Nat} {xs ys : List (List PV)} (ht : σ.toks t = some (e, es, xs.length)) (hp : g.ph t = false)
    (hx : VRp g.I (.lst es xs) (.slice (some ⟨g.φ t, 0, none⟩) xs.length (g.cap t))) (cur : Array Value) (e' : TypeId) (hcur : w.heap[g.φ t]? = some (.cells cur e' (0, 0))) (hsz : cur.size = g.cap t * es)
    (news : List Value) (hf : Flat g.I es ys news) (hroom : xs.length + ys.length ≤ g.cap t) :
    ∃ g', Ghost.le σ.next g g' ∧ RelS F g' ((σ.killTok t).newTok e es (xs.length + ys.length)) (w.setRow (g.φ t) (cur.toList.take (xs.length * es) ++ news ++ cur.toList.drop (xs.length * es + news.length)).toArray) ∧
      VR g' (σ.next + 1) (.row σ.next es (xs ++ ys)) (.slice (some ⟨g.φ t, 0, none⟩) (xs.length + ys.length) (g.cap t)) := by
  obtain ⟨htn, h2⟩ := hS.tok t e es _ ht
  obtain ⟨hB, hInone, c, e₂, hc, hcs, hm, hcap⟩ := h2 hp
  rw [hcur] at hc
  obtain ⟨rfl⟩ : cur = c := by injection hc with hc; injection hc
  obtain ⟨olds, hfo, hv⟩ := hx.flat
  rcases hv with ⟨hv, _⟩ | ⟨a0, cap, hsp, hv, _⟩ | ⟨b, o, cap, hv, hxc, hI⟩
  · cases hv
  · injection hv with hv; injection hv with hv; rw [← hv] at hsp; exact absurd rfl hsp
  have hb : g.φ t = b ∧ 0 = o ∧ g.cap t = cap := by
    injection hv with h1 _ h3
    injection h1 with h1
    injection h1 with h1 h4
    exact ⟨h1, h4, h3⟩
  obtain ⟨rfl, rfl, rfl⟩ := hb
  simp only [Nat.zero_add] at hI
  have hK := hS.killTok t
  have hobj : ∀ n, ((σ.killTok t).objs n).isSome → g.φ n ≠ g.φ t := fun n hn => hS.apart n t hn (by simp [ht]) hp
  have htok : ∀ s, ((σ.killTok t).toks s).isSome → g.ph s = false → g.φ s ≠ g.φ t := fun s hs hps he => by
    simp only [Store.killTok] at hs
    by_cases q : s = t
    · simp [q] at hs
    · rw [if_neg q] at hs; exact q (hS.injt s t hs (by simp [ht]) hps hp he)
  have hlen : olds.length ≤ cur.size := by rw [hfo.len, hsz]; exact Nat.mul_le_mul_right _ (by omega)
  have hold : ∀ j u, olds[j]? = some u → cur[j]? = some u := fun j u hj => by
    have := hS.imm _ _ _ (hI j u hj)
    simpa [World.cell?, hcur] using this
  have hnl : xs.length * es + news.length ≤ cur.size := by rw [hf.len, hsz, ← Nat.add_mul]; exact Nat.mul_le_mul_right _ hroom
  have hS1 := hK.setRow (g.φ t) cur (cur.toList.take (xs.length * es) ++ news ++ cur.toList.drop (xs.length * es + news.length)).toArray e' hcur hB (fun o v ho => by
    have hlt : o < xs.length * es := by
      rcases Nat.lt_or_ge o (xs.length * es) with h' | h'
      · exact h'
      · rw [hInone o h'] at ho; cases ho
    have := hS.imm _ _ _ ho
    have hco : cur[o]? = some v := by simpa [World.cell?, hcur] using this
    have h1 : o < (cur.toList.take (xs.length * es)).length := by simp; omega
    simp only [List.getElem?_toArray]
    rw [List.append_assoc, List.getElem?_append_left h1, List.getElem?_take_of_lt hlt]
    simpa using hco) hobj htok
  have hrow := setRow_heap w (g.φ t) cur (cur.toList.take (xs.length * es) ++ news ++ cur.toList.drop (xs.length * es + news.length)).toArray e' (0, 0) hcur
  have hle : Imm.le g.I (g.I.add (g.φ t) (xs.length * es) news) := Imm.le_add fun o ho _ => hInone o ho
  have hnlen : (cur.toList.take (xs.length * es)).length = xs.length * es := by simp; omega
  have hS2 := hS1.addI (g.φ t) (xs.length * es) news (fun j v hj => by
    rw [cell_setRow_same w _ _ _ _ _ _ hcur]
    simp only [List.getElem?_toArray]
    have := getElem?_lt hj
    rw [List.append_assoc, List.getElem?_append_right (by omega), hnlen, Nat.add_sub_cancel_left, List.getElem?_append_left this]
    exact hj) hobj htok hle
  have hS3 := hS2.newTok (g.φ t) _ e e' es (xs.length + ys.length) (g.cap t) hrow hB (by simp; omega) hroom hcap (fun o ho => by
    simp only [Ghost.withI]
    have hnl' := hf.len
    rw [Nat.add_mul] at ho
    rw [Imm.add_other (.inr (.inr (by omega)))]
    exact hInone o (by omega)) hobj htok
  have hg1 : Ghost.le σ.next g (g.withI (g.I.add (g.φ t) (xs.length * es) news)) := ⟨hle, fun _ _ => rfl, fun _ _ => rfl, fun _ _ => rfl⟩
  refine ⟨_, hg1.trans (Ghost.le_named _ _ (g.φ t) (g.cap t) false), hS3, ?_⟩
  have hv := VR.row (g := (g.withI (g.I.add (g.φ t) (xs.length * es) news)).named σ.next (g.φ t) (g.cap t) false) (k := σ.next + 1) (t := σ.next) (es := es) (xs := xs ++ ys) (by omega) (by simp [Ghost.named, upd])
    (by
      simp only [Ghost.named, upd, if_true]
      refine ((hfo.append hf).mono hle).vrp (by rw [List.length_append]; exact hroom) (fun j u hj => ?_)
      simp only [Nat.zero_add]
      by_cases hjl : j < olds.length
      · rw [List.getElem?_append_left hjl] at hj
        exact hle _ _ _ (hI j u hj)
      · rw [List.getElem?_append_right (by omega)] at hj
        have := Imm.add_at (I := g.I) (b := g.φ t) (lo := xs.length * es) hj
        rwa [hfo.len, show xs.length * es + (j - xs.length * es) = j by have := hfo.len; omega] at this)
  simpa [Ghost.named, upd] using hv

/-- An append in place, whatever the block was made for. -/
theorem run_append_room' {P : Program} (w : World) (t ty e e' : TypeId) (i : TypeInfo) (ht : P.underlying t = some (.slice e)) (hi : P.info? e = some i)
    (g sLen sCap : Nat) (cur : Array Value) (hg : w.heap[g]? = some (.cells cur e' (0, 0)))
    (a : Addr) (m c : Nat) (news : List Value) (hl : news.length = m * i.size) (hnews : ∀ j u, news[j]? = some u → w.cell? (a.add j) = some u) (h1 : ∀ u ∈ news, u.oneCell' = true)
    (hroom : sLen + m ≤ sCap) (hfit : sLen * i.size + news.length ≤ cur.size) :
    (Builtin.append_ #[t, t] ty #[.slice (some ⟨g, 0, none⟩) sLen sCap, .slice (some a) m c]).run P w =
      .ok (.slice (some ⟨g, 0, none⟩) (sLen + m) sCap) (w.setRow g (cur.toList.take (sLen * i.size) ++ news ++ cur.toList.drop (sLen * i.size + news.length)).toArray) := by
  have hf := run_firstCells_some (P := P) w i.size m a m c news hl hnews
  have hst := run_storeCells_at P g (sLen * i.size) e' news 0 cur w hg (by simpa using hfit) h1
  simp only [Nat.add_zero] at hst
  simp [Builtin.append_, run_underlying ht, sizeOf, typeInfo, hi, Builtin.lenOf, hroom, hf, Addr.add_mk, hst]

/-- The two forms of what is appended. -/
theorem run_append_list {P : Program} {F : Base} {g : Ghost} {σ : Store} {w : World} (hS : RelS F g σ w) (t ty e : TypeId) (i : TypeInfo) (z : Value) (ht : P.underlying t = some (.slice e)) (hi : P.info? e = some i) (hz : i.zero = some z)
    (hzs : z.cells.size = i.size) (hpos : 0 < i.size) {xs ys : List (List PV)} {v src : Value} (hsrc : VRp g.I (.lst i.size ys) src) (hb : (xs.length + ys.length) * i.bytes ≤ 140737488355328) (hmax : xs.length + ys.length ≤ maxLen)
    (tok : Option Nat) (hv : match tok with
      | none => VR g σ.next (.full i.size xs) v
      | some s => VR g σ.next (.row s i.size xs) v ∧ σ.toks s = some (e, i.size, xs.length)) :
    ∃ v' w', (Builtin.append_ #[t, t] ty #[v, src]).run P w = .ok v' w' ∧
      ∃ g', Ghost.le σ.next g g' ∧ RelS F g' ((match tok with | none => σ | some s => σ.killTok s).newTok e i.size (xs.length + ys.length)) w' ∧ VR g' (σ.next + 1) (.row σ.next i.size (xs ++ ys)) v' := by
  obtain ⟨news, hf, hn⟩ := hsrc.flat
  -- a value whose room is used up
  have full : ∀ (a : Option Addr) (σ1 : Store) (_ : σ1.next = σ.next) (_ : RelS F g σ1 w), v = .slice a xs.length xs.length → VRp g.I (.lst i.size xs) (.slice a xs.length xs.length) →
      ∃ v' w', (Builtin.append_ #[t, t] ty #[v, src]).run P w = .ok v' w' ∧
      ∃ g', Ghost.le σ.next g g' ∧ RelS F g' (σ1.newTok e i.size (xs.length + ys.length)) w' ∧ VR g' (σ.next + 1) (.row σ.next i.size (xs ++ ys)) v' := by
    rintro a σ1 hnx hS1 rfl hx
    by_cases hm : ys.length = 0
    · have hys : ys = [] := List.eq_nil_of_length_eq_zero hm
      subst hys
      have hsv : ∃ a' c, src = .slice a' 0 c := by
        rcases hn with ⟨rfl, _⟩ | ⟨a, cap, _, rfl, _⟩ | ⟨b, o, cap, rfl, _⟩
        · exact ⟨none, 0, rfl⟩
        · exact ⟨_, _, rfl⟩
        · exact ⟨_, _, rfl⟩
      obtain ⟨a', c, rfl⟩ := hsv
      refine ⟨_, w, run_append_zero w t ty e ht i hi a a' _ _ c (Nat.le_refl _), _, ?_, hS1.newFull e i.size _, ?_⟩
      · rw [hnx]; exact Ghost.le_named _ _ _ _ _
      · rw [hnx]
        simp only [List.append_nil]
        exact .rowfull (by omega) (by simp [Ghost.named, upd]) hx
    · obtain ⟨b, o, cap, rfl, hyc, hI⟩ : ∃ b o cap, src = .slice (some ⟨b, o, none⟩) ys.length cap ∧ ys.length ≤ cap ∧ ∀ (j : Nat) (u : Value), news[j]? = some u → g.I b (o + j) = some u := by
        rcases hn with ⟨_, hys⟩ | ⟨_, _, _, _, hys⟩ | h
        · rw [hys] at hm; exact absurd rfl hm
        · rw [hys] at hm; exact absurd rfl hm
        · exact h
      have hcell : ∀ j u, news[j]? = some u → w.cell? ((⟨b, o, none⟩ : Addr).add j) = some u := fun j u hj => by rw [Addr.add_mk]; exact hS.imm _ _ _ (hI j u hj)
      obtain ⟨olds, hfo, ho⟩ := hx.flat
      rcases ho with ⟨hnil, hxs⟩ | ⟨a0, cap0, hsp, hv0, hxs⟩ | ⟨b0, o0, cap0, hv0, hxc, hI0⟩
      · subst hxs
        injection hnil with ha
        subst ha
        have hr := run_append_nil (P := P) w t ty e i z ht hi hz ⟨b, o, none⟩ ys.length cap news hf.len hcell (by omega) (by simp [maxLen] at hmax; omega) (by simp at hb; omega)
        simp only [List.length_nil, Nat.zero_add, List.nil_append] at hb hmax ⊢
        have hge := grownCap_ge w ys.length 0 e
        obtain ⟨g', h1, h2, h3⟩ := grow_rel hS1 e i.size (grownCap w ys.length 0 e) ys news (Builtin.zeroCells z.cells (grownCap w ys.length 0 e - ys.length)).toList hf hge (grownCap_le_maxLen w _ _ e hmax)
          (by simp only [hf.len, Array.length_toList, size_zeroCells, hzs, ← Nat.add_mul]; congr 1; omega)
        rw [hnx] at h1 h3
        refine ⟨_, _, hr, g', h1, ?_, h3⟩
        have : (news.toArray ++ Builtin.zeroCells z.cells (grownCap w ys.length 0 e - ys.length)) = (news ++ (Builtin.zeroCells z.cells (grownCap w ys.length 0 e - ys.length)).toList).toArray := by simp
        rw [this]; exact h2
      · injection hv0 with ha _ _
        subst ha
        have ho0 : olds = [] := List.eq_nil_of_length_eq_zero (by rw [hfo.len, hxs]; simp)
        have holds : ∀ j u, olds[j]? = some u → w.cell? (a0.add j) = some u := fun j u hj => by rw [ho0] at hj; simp at hj
        have hr := run_append_grow (P := P) w t ty e i z ht hi hz a0 xs.length xs.length olds hfo.len holds ⟨b, o, none⟩ ys.length cap news hf.len hcell (by omega) (by simp [maxLen] at hmax; omega) (growslice_fits (by omega) hb)
        have hge := grownCap_ge w (xs.length + ys.length) xs.length e
        obtain ⟨g', h1, h2, h3⟩ := grow_rel hS1 e i.size (grownCap w (xs.length + ys.length) xs.length e) (xs ++ ys) (olds ++ news) (Builtin.zeroCells z.cells (grownCap w (xs.length + ys.length) xs.length e - (xs.length + ys.length))).toList (hfo.append hf) (by simpa using hge) (grownCap_le_maxLen w _ _ e hmax)
          (by simp only [(hfo.append hf).len, List.length_append, Array.length_toList, size_zeroCells, hzs, ← Nat.add_mul]; congr 1; omega)
        rw [hnx] at h1 h3
        rw [List.length_append] at h2 h3
        refine ⟨_, _, hr, g', h1, ?_, h3⟩
        have : (olds.toArray ++ news.toArray ++ Builtin.zeroCells z.cells (grownCap w (xs.length + ys.length) xs.length e - (xs.length + ys.length))) = (olds ++ news ++ (Builtin.zeroCells z.cells (grownCap w (xs.length + ys.length) xs.length e - (xs.length + ys.length))).toList).toArray := by simp
        rw [this]; exact h2
      · injection hv0 with ha _ _
        subst ha
        have holds : ∀ j u, olds[j]? = some u → w.cell? ((⟨b0, o0, none⟩ : Addr).add j) = some u := fun j u hj => by rw [Addr.add_mk]; exact hS.imm _ _ _ (hI0 j u hj)
        have hr := run_append_grow (P := P) w t ty e i z ht hi hz ⟨b0, o0, none⟩ xs.length xs.length olds hfo.len holds ⟨b, o, none⟩ ys.length cap news hf.len hcell (by omega) (by simp [maxLen] at hmax; omega) (growslice_fits (by omega) hb)
        have hge := grownCap_ge w (xs.length + ys.length) xs.length e
        obtain ⟨g', h1, h2, h3⟩ := grow_rel hS1 e i.size (grownCap w (xs.length + ys.length) xs.length e) (xs ++ ys) (olds ++ news) (Builtin.zeroCells z.cells (grownCap w (xs.length + ys.length) xs.length e - (xs.length + ys.length))).toList (hfo.append hf) (by simpa using hge) (grownCap_le_maxLen w _ _ e hmax)
          (by simp only [(hfo.append hf).len, List.length_append, Array.length_toList, size_zeroCells, hzs, ← Nat.add_mul]; congr 1; omega)
        rw [hnx] at h1 h3
        rw [List.length_append] at h2 h3
        refine ⟨_, _, hr, g', h1, ?_, h3⟩
        have : (olds.toArray ++ news.toArray ++ Builtin.zeroCells z.cells (grownCap w (xs.length + ys.length) xs.length e - (xs.length + ys.length))) = (olds ++ news ++ (Builtin.zeroCells z.cells (grownCap w (xs.length + ys.length) xs.length e - (xs.length + ys.length))).toList).toArray := by simp
        rw [this]; exact h2
  cases tok with
  | none =>
    cases hv with | full hx => exact full _ σ rfl hS rfl hx
  | some s =>
    obtain ⟨hv, hs⟩ := hv
    cases hv with
    | rowfull htk hp hx => exact full _ (σ.killTok s) rfl (hS.killTok s) rfl hx
    | row htk hp hx =>
      obtain ⟨htn, h2⟩ := hS.tok s e _ _ hs
      obtain ⟨hB, hInone, cur, e', hcur, hsz, hm, hcap⟩ := h2 hp
      by_cases hm0 : ys.length = 0
      · have hys : ys = [] := List.eq_nil_of_length_eq_zero hm0
        subst hys
        have hsv : ∃ a' c, src = .slice a' 0 c := by
          rcases hn with ⟨rfl, _⟩ | ⟨a, cap, _, rfl, _⟩ | ⟨b, o, cap, rfl, _⟩
          · exact ⟨none, 0, rfl⟩
          · exact ⟨_, _, rfl⟩
          · exact ⟨_, _, rfl⟩
        obtain ⟨a', c, rfl⟩ := hsv
        obtain ⟨g', h1, h2, h3⟩ := room_rel hS hs hp hx cur e' hcur hsz [] (Flat.nil _ _) (by simpa using hm)
        have hself : w.setRow (g.φ s) (cur.toList.take (xs.length * i.size) ++ [] ++ cur.toList.drop (xs.length * i.size + 0)).toArray = w := by
          simp only [List.append_nil, Nat.add_zero, List.take_append_drop, Array.toArray_toList]
          exact setRow_self w _ cur e' (0, 0) hcur
        simp only [List.length_nil] at h2
        rw [hself] at h2
        exact ⟨_, w, run_append_zero w t ty e ht i hi _ a' _ _ c hm, g', h1, h2, h3⟩
      · obtain ⟨b, o, cap, rfl, hyc, hI⟩ : ∃ b o cap, src = .slice (some ⟨b, o, none⟩) ys.length cap ∧ ys.length ≤ cap ∧ ∀ (j : Nat) (u : Value), news[j]? = some u → g.I b (o + j) = some u := by
          rcases hn with ⟨_, hys⟩ | ⟨_, _, _, _, hys⟩ | h
          · rw [hys] at hm0; exact absurd rfl hm0
          · rw [hys] at hm0; exact absurd rfl hm0
          · exact h
        have hcell : ∀ j u, news[j]? = some u → w.cell? ((⟨b, o, none⟩ : Addr).add j) = some u := fun j u hj => by rw [Addr.add_mk]; exact hS.imm _ _ _ (hI j u hj)
        by_cases hroom : xs.length + ys.length ≤ g.cap s
        · have hr := run_append_room' (P := P) w t ty e e' i ht hi (g.φ s) xs.length (g.cap s) cur hcur ⟨b, o, none⟩ ys.length cap news hf.len hcell hf.one hroom
            (by rw [hf.len, hsz, ← Nat.add_mul]; exact Nat.mul_le_mul_right _ hroom)
          obtain ⟨g', h1, h2, h3⟩ := room_rel hS hs hp hx cur e' hcur hsz news hf hroom
          exact ⟨_, _, hr, g', h1, h2, h3⟩
        · obtain ⟨olds, hfo, ho⟩ := hx.flat
          rcases ho with ⟨hnil, _⟩ | ⟨a0, cap0, hsp, hv0, _⟩ | ⟨b0, o0, cap0, hv0, hxc, hI0⟩
          · cases hnil
          · injection hv0 with hv0; injection hv0 with hv0; rw [← hv0] at hsp; exact absurd rfl hsp
          injection hv0 with ha _ hc0
          injection ha with ha
          have holds : ∀ j u, olds[j]? = some u → w.cell? ((⟨g.φ s, 0, none⟩ : Addr).add j) = some u := fun j u hj => by
            rw [ha, Addr.add_mk]; exact hS.imm _ _ _ (hI0 j u hj)
          have hr := run_append_grow (P := P) w t ty e i z ht hi hz ⟨g.φ s, 0, none⟩ xs.length (g.cap s) olds hfo.len holds ⟨b, o, none⟩ ys.length cap news hf.len hcell (by omega) (by simp [maxLen] at hmax; omega) (growslice_fits (by omega) hb)
          have hge := grownCap_ge w (xs.length + ys.length) (g.cap s) e
          obtain ⟨g', h1, h2, h3⟩ := grow_rel (hS.killTok s) e i.size (grownCap w (xs.length + ys.length) (g.cap s) e) (xs ++ ys) (olds ++ news) (Builtin.zeroCells z.cells (grownCap w (xs.length + ys.length) (g.cap s) e - (xs.length + ys.length))).toList (hfo.append hf) (by simpa using hge) (grownCap_le_maxLen w _ _ e hmax)
            (by simp only [(hfo.append hf).len, List.length_append, Array.length_toList, size_zeroCells, hzs, ← Nat.add_mul]; congr 1; omega)
          rw [List.length_append] at h2 h3
          refine ⟨_, _, hr, g', h1, ?_, h3⟩
          have : (olds.toArray ++ news.toArray ++ Builtin.zeroCells z.cells (grownCap w (xs.length + ys.length) (g.cap s) e - (xs.length + ys.length))) = (olds ++ news ++ (Builtin.zeroCells z.cells (grownCap w (xs.length + ys.length) (g.cap s) e - (xs.length + ys.length))).toList).toArray := by simp
          rw [this]; exact h2
end Go.Proofs.Ytnanpamfdjnomaa.AL
