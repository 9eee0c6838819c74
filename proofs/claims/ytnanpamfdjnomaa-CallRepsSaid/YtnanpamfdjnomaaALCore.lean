/- AL: abstract states for walks: values without memory, a store of named objects. -/
import Derived.WalkKit
namespace Go.Proofs.Ytnanpamfdjnomaa.AL
open Go Go.RowKit

/-- A value without names of memory: what a reading tells. -/
inductive PV where
  | val (v : Value)
  | lst (es : Nat) (xs : List (List PV))
  | agg (cs : List PV)

/-- Cells that stay as they are. -/
abbrev Imm := Nat → Nat → Option Value

/-- 'v' reads as 'p', out of cells that stay. -/
inductive VRp (I : Imm) : PV → Value → Prop where
  | val (v : Value) : VRp I (.val v) v
  | nil (es : Nat) : VRp I (.lst es []) (.slice none 0 0)
  | emp (es : Nat) (a : Addr) (cap : Nat) : VRp I (.lst es []) (.slice (some a) 0 cap)
  | lst (es : Nat) (xs : List (List PV)) (b o cap : Nat) (cells : List Value) (hcap : xs.length ≤ cap)
      (hl : cells.length = xs.length * es) (h1 : ∀ u ∈ cells, u.oneCell' = true)
      (hx : ∀ (i : Nat) (x : List PV), xs[i]? = some x → x.length = es)
      (hI : ∀ (j : Nat) (u : Value), cells[j]? = some u → I b (o + j) = some u)
      (hV : ∀ (i : Nat) (x : List PV) (j : Nat) (y : PV), xs[i]? = some x → x[j]? = some y → VRp I y (cells.getD (i * es + j) undef)) :
      VRp I (.lst es xs) (.slice (some ⟨b, o, none⟩) xs.length cap)
  | agg (cs : List PV) (vs : Array Value) (hs : vs.size = cs.length)
      (h : ∀ (j : Nat) (y : PV), cs[j]? = some y → VRp I y (vs.getD j undef)) : VRp I (.agg cs) (.agg vs)

def Imm.le (I J : Imm) : Prop := ∀ b o v, I b o = some v → J b o = some v
theorem Imm.le_refl (I : Imm) : Imm.le I I := fun _ _ _ h => h
theorem Imm.le_trans {I J K : Imm} (h : Imm.le I J) (k : Imm.le J K) : Imm.le I K := fun b o v x => k b o v (h b o v x)

theorem VRp.mono {I J : Imm} (h : Imm.le I J) {p : PV} {v : Value} (r : VRp I p v) : VRp J p v := by
  induction r with
  | val v => exact .val v
  | nil es => exact .nil es
  | emp es a cap => exact .emp es a cap
  | lst es xs b o cap cells hcap hl h1 hx hI hV ih => exact .lst es xs b o cap cells hcap hl h1 hx (fun j u hu => h _ _ _ (hI j u hu)) ih
  | agg cs vs hs _ ih => exact .agg cs vs hs ih

/-- A value of a walk. -/
inductive AV where
  | any
  | pv (p : PV)
  | row (t es : Nat) (xs : List (List PV))
  | full (es : Nat) (xs : List (List PV))
  | ptr (n off : Nat)
  | sl (n off len cap : Nat)
  | ia (cs : List PV) (off : Nat)
  | agg (cs : List AV)
  | tup (vs : List AV)

structure Ghost where
  I : Imm
  φ : Nat → Nat
  cap : Nat → Nat
  ph : Nat → Bool

structure Ghost.le (k : Nat) (g h : Ghost) : Prop where
  I : Imm.le g.I h.I
  φ : ∀ n, n < k → h.φ n = g.φ n
  cap : ∀ n, n < k → h.cap n = g.cap n
  ph : ∀ n, n < k → h.ph n = g.ph n
theorem Ghost.le.refl (k : Nat) (g : Ghost) : Ghost.le k g g := ⟨Imm.le_refl _, fun _ _ => rfl, fun _ _ => rfl, fun _ _ => rfl⟩
theorem Ghost.le.trans {k : Nat} {a b c : Ghost} (h : Ghost.le k a b) (h' : Ghost.le k b c) : Ghost.le k a c :=
  ⟨Imm.le_trans h.I h'.I, fun n hn => (h'.φ n hn).trans (h.φ n hn), fun n hn => (h'.cap n hn).trans (h.cap n hn), fun n hn => (h'.ph n hn).trans (h.ph n hn)⟩
theorem Ghost.le.mono {k k' : Nat} {g h : Ghost} (x : Ghost.le k g h) (hk : k' ≤ k) : Ghost.le k' g h :=
  ⟨x.I, fun n hn => x.φ n (by omega), fun n hn => x.cap n (by omega), fun n hn => x.ph n (by omega)⟩

inductive VR (g : Ghost) (k : Nat) : AV → Value → Prop where
  | any (v : Value) : VR g k .any v
  | pv {p : PV} {v : Value} (h : VRp g.I p v) : VR g k (.pv p) v
  | rowfull {t es : Nat} {xs : List (List PV)} {a : Option Addr} (ht : t < k) (hp : g.ph t = true) (h : VRp g.I (.lst es xs) (.slice a xs.length xs.length)) :
      VR g k (.row t es xs) (.slice a xs.length xs.length)
  | row {t es : Nat} {xs : List (List PV)} (ht : t < k) (hp : g.ph t = false) (h : VRp g.I (.lst es xs) (.slice (some ⟨g.φ t, 0, none⟩) xs.length (g.cap t))) :
      VR g k (.row t es xs) (.slice (some ⟨g.φ t, 0, none⟩) xs.length (g.cap t))
  | full {es : Nat} {xs : List (List PV)} {a : Option Addr} (h : VRp g.I (.lst es xs) (.slice a xs.length xs.length)) : VR g k (.full es xs) (.slice a xs.length xs.length)
  | ptr {n off : Nat} (h : n < k) : VR g k (.ptr n off) (.pointer (some ⟨g.φ n, off, none⟩))
  | sl {n off len cap : Nat} (h : n < k) : VR g k (.sl n off len cap) (.slice (some ⟨g.φ n, off, none⟩) len cap)
  | ia {cs : List PV} {off b o : Nat} (vs : Nat → Value) (hI : ∀ (j : Nat) (y : PV), cs[j]? = some y → g.I b (o + j) = some (vs j))
      (hV : ∀ (j : Nat) (y : PV), cs[j]? = some y → VRp g.I y (vs j)) : VR g k (.ia cs off) (.pointer (some ⟨b, o + off, none⟩))
  | agg {cs : List AV} (vs : Array Value) (hs : vs.size = cs.length) (h : ∀ (j : Nat) (y : AV), cs[j]? = some y → VR g k y (vs.getD j undef)) : VR g k (.agg cs) (.agg vs)
  | tup {cs : List AV} (vs : Array Value) (hs : vs.size = cs.length) (h : ∀ (j : Nat) (y : AV), cs[j]? = some y → VR g k y (vs.getD j undef)) : VR g k (.tup cs) (.tuple vs)

theorem VR.mono {g h : Ghost} {k k' : Nat} (hg : Ghost.le k g h) (hk : k ≤ k') {x : AV} {v : Value} (r : VR g k x v) : VR h k' x v := by
  induction r with
  | any v => exact .any v
  | pv r => exact .pv (r.mono hg.I)
  | rowfull ht hp r => exact .rowfull (by omega) (by rw [hg.ph _ ht]; exact hp) (r.mono hg.I)
  | @row t es xs ht hp r =>
    have := VR.row (g := h) (k := k') (t := t) (es := es) (xs := xs) (by omega) (by rw [hg.ph _ ht]; exact hp) (by rw [hg.φ _ ht, hg.cap _ ht]; exact r.mono hg.I)
    rw [hg.φ _ ht, hg.cap _ ht] at this; exact this
  | full r => exact .full (r.mono hg.I)
  | @ptr n off hn => have := VR.ptr (g := h) (k := k') (n := n) (off := off) (by omega); rw [hg.φ _ hn] at this; exact this
  | @sl n off len cap hn => have := VR.sl (g := h) (k := k') (n := n) (off := off) (len := len) (cap := cap) (by omega); rw [hg.φ _ hn] at this; exact this
  | ia vs hI hV => exact .ia vs (fun j y hy => hg.I _ _ _ (hI j y hy)) (fun j y hy => (hV j y hy).mono hg.I)
  | agg vs hs _ ih => exact .agg vs hs ih
  | tup vs hs _ ih => exact .tup vs hs ih

/-- All names lie below k. -/
inductive AV.Lt (k : Nat) : AV → Prop where
  | any : AV.Lt k .any
  | pv (p : PV) : AV.Lt k (.pv p)
  | row {t es : Nat} {xs : List (List PV)} (h : t < k) : AV.Lt k (.row t es xs)
  | full (es : Nat) (xs : List (List PV)) : AV.Lt k (.full es xs)
  | ptr {n off : Nat} (h : n < k) : AV.Lt k (.ptr n off)
  | sl {n off len cap : Nat} (h : n < k) : AV.Lt k (.sl n off len cap)
  | ia (cs : List PV) (off : Nat) : AV.Lt k (.ia cs off)
  | agg {cs : List AV} (h : ∀ x ∈ cs, AV.Lt k x) : AV.Lt k (.agg cs)
  | tup {cs : List AV} (h : ∀ x ∈ cs, AV.Lt k x) : AV.Lt k (.tup cs)

@[simp] theorem AV.lt_any (k : Nat) : AV.Lt k .any ↔ True := ⟨fun _ => trivial, fun _ => .any⟩
@[simp] theorem AV.lt_pv (k : Nat) (p : PV) : AV.Lt k (.pv p) ↔ True := ⟨fun _ => trivial, fun _ => .pv p⟩
@[simp] theorem AV.lt_full (k es : Nat) (xs : List (List PV)) : AV.Lt k (.full es xs) ↔ True := ⟨fun _ => trivial, fun _ => .full es xs⟩
@[simp] theorem AV.lt_ia (k : Nat) (cs : List PV) (off : Nat) : AV.Lt k (.ia cs off) ↔ True := ⟨fun _ => trivial, fun _ => .ia cs off⟩
@[simp] theorem AV.lt_row (k t es : Nat) (xs : List (List PV)) : AV.Lt k (.row t es xs) ↔ t < k := ⟨fun h => by cases h; assumption, .row⟩
@[simp] theorem AV.lt_ptr (k n off : Nat) : AV.Lt k (.ptr n off) ↔ n < k := ⟨fun h => by cases h; assumption, .ptr⟩
@[simp] theorem AV.lt_sl (k n off len cap : Nat) : AV.Lt k (.sl n off len cap) ↔ n < k := ⟨fun h => by cases h; assumption, .sl⟩
@[simp] theorem AV.lt_agg (k : Nat) (cs : List AV) : AV.Lt k (.agg cs) ↔ ∀ x ∈ cs, AV.Lt k x := ⟨fun h => by cases h; assumption, .agg⟩
@[simp] theorem AV.lt_tup (k : Nat) (cs : List AV) : AV.Lt k (.tup cs) ↔ ∀ x ∈ cs, AV.Lt k x := ⟨fun h => by cases h; assumption, .tup⟩

theorem AV.Lt.mono {k k' : Nat} {x : AV} (h : AV.Lt k x) (hk : k ≤ k') : AV.Lt k' x := by
  induction h with
  | any => exact .any
  | pv p => exact .pv p
  | row h => exact .row (by omega)
  | full es xs => exact .full es xs
  | ptr h => exact .ptr (by omega)
  | sl h => exact .sl (by omega)
  | ia cs off => exact .ia cs off
  | agg _ ih => exact .agg ih
  | tup _ ih => exact .tup ih

theorem VR.lower {g : Ghost} {k k' : Nat} {x : AV} {v : Value} (r : VR g k x v) (hx : AV.Lt k' x) : VR g k' x v := by
  induction r with
  | any v => exact .any v
  | pv r => exact .pv r
  | rowfull ht hp r => exact .rowfull (by simpa using hx) hp r
  | row ht hp r => exact .row (by simpa using hx) hp r
  | full r => exact .full r
  | ptr hn => exact .ptr (by simpa using hx)
  | sl hn => exact .sl (by simpa using hx)
  | ia vs hI hV => exact .ia vs hI hV
  | agg vs hs _ ih => exact .agg vs hs (fun j y hy => ih j y hy ((AV.lt_agg _ _).1 hx y (List.mem_of_getElem? hy)))
  | tup vs hs _ ih => exact .tup vs hs (fun j y hy => ih j y hy ((AV.lt_tup _ _).1 hx y (List.mem_of_getElem? hy)))

/-- The slots. -/
abbrev Env := List (Nat × AV)
def Env.get : Env → Nat → AV
  | [], _ => .any
  | (s, x) :: r, t => if s = t then x else Env.get r t
def Env.put (env : Env) (d : Option Nat) (x : AV) : Env :=
  match d with
  | some s => (s, x) :: env
  | none => env

structure Store where
  objs : Nat → Option (List AV)
  toks : Nat → Option (TypeId × Nat × Nat)
  next : Nat

/-- What is fixed of a run: the world in which it began. -/
structure Base where
  W : World
  B : Nat

structure RelS (F : Base) (g : Ghost) (σ : Store) (w : World) : Prop where
  below : Below F.B F.W w
  base : F.B ≤ w.heap.size
  imm : ∀ b o v, g.I b o = some v → w.cell? ⟨b, o, none⟩ = some v
  obj : ∀ n cs, σ.objs n = some cs → n < σ.next ∧ F.B ≤ g.φ n ∧ (∀ o, g.I (g.φ n) o = none) ∧
    ∃ (c : Array Value) (e : TypeId), w.heap[g.φ n]? = some (.cells c e (0, 0)) ∧ c.size = cs.length ∧
      (∀ (i : Nat) (x : AV), cs[i]? = some x → VR g σ.next x (c.getD i undef))
  tok : ∀ t e es m, σ.toks t = some (e, es, m) → t < σ.next ∧ (g.ph t = false → F.B ≤ g.φ t ∧ (∀ o, m * es ≤ o → g.I (g.φ t) o = none) ∧
    ∃ (c : Array Value) (e' : TypeId), w.heap[g.φ t]? = some (.cells c e' (0, 0)) ∧ c.size = g.cap t * es ∧ m ≤ g.cap t ∧ g.cap t ≤ maxLen)
  inj : ∀ m n, (σ.objs m).isSome → (σ.objs n).isSome → g.φ m = g.φ n → m = n
  injt : ∀ s t, (σ.toks s).isSome → (σ.toks t).isSome → g.ph s = false → g.ph t = false → g.φ s = g.φ t → s = t
  apart : ∀ n t, (σ.objs n).isSome → (σ.toks t).isSome → g.ph t = false → g.φ n ≠ g.φ t

structure RelE (N : Nat) (g : Ghost) (k : Nat) (env : Env) (a : Act) : Prop where
  defers : a.defers = []
  size : a.tmps.size = N
  slot : ∀ t, VR g k (env.get t) (a.tmps.getD t undef)
end Go.Proofs.Ytnanpamfdjnomaa.AL
