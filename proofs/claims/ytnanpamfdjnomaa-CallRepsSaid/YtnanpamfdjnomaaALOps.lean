/- AL: the operations, reckoned. -/
import Derived.Test.YtnanpamfdjnomaaALApp
namespace Go.Proofs.Ytnanpamfdjnomaa.AL
open Go Go.RowKit

theorem AOp.quiet {P : Program} {N : Nat} {o : Oper} {env : Env} {σ : Store} {K : AV → Store → Prop} {x : AV}
    (h : ∀ F g a w, RelS F g σ w → RelE N g σ.next env a → ∃ v, (execOp a.eval o).run P w = .ok (.value v) w ∧ VR g σ.next x v) (hK : K x σ) : AOp P N o env σ K := by
  intro F g a w hS hE Q
  obtain ⟨v, hr, hv⟩ := h F g a w hS hE
  simp only [Oper.wp, hr, Oper.upon]
  exact ⟨v, x, σ, g, rfl, .refl _ _, Nat.le_refl _, hS, hv, hK⟩

theorem AOp.step {P : Program} {N : Nat} {o : Oper} {env : Env} {σ σ' : Store} {K : AV → Store → Prop} {x : AV}
    (h : ∀ F g a w, RelS F g σ w → RelE N g σ.next env a → ∃ v w' g', (execOp a.eval o).run P w = .ok (.value v) w' ∧ Ghost.le σ.next g g' ∧ RelS F g' σ' w' ∧ VR g' σ'.next x v) (hn : σ.next ≤ σ'.next) (hK : K x σ') : AOp P N o env σ K := by
  intro F g a w hS hE Q
  obtain ⟨v, w', g', hr, h1, h2, h3⟩ := h F g a w hS hE
  simp only [Oper.wp, hr, Oper.upon]
  exact ⟨v, x, σ', g', rfl, h1, hn, h2, h3, hK⟩

theorem AOp.skip {P : Program} {N : Nat} {o : Oper} {env : Env} {σ σ' : Store} {K : AV → Store → Prop}
    (h : ∀ F g a w, RelS F g σ w → RelE N g σ.next env a → ∃ w' g', (execOp a.eval o).run P w = .ok .skip w' ∧ Ghost.le σ.next g g' ∧ RelS F g' σ' w') (hn : σ.next ≤ σ'.next) (hK : K .any σ') : AOp P N o env σ K := by
  intro F g a w hS hE Q
  obtain ⟨w', g', hr, h1, h2⟩ := h F g a w hS hE
  simp only [Oper.wp, hr, Oper.upon]
  exact ⟨undef, .any, σ', g', rfl, h1, hn, h2, .any _, hK⟩

/-! ### Values -/
abbrev AV.int (k : IntKind) (n : Int) : AV := .pv (.val (.int k n))
abbrev AV.bool (b : Bool) : AV := .pv (.val (.bool b))
abbrev AV.nil : AV := .pv (.val (.slice none 0 0))

theorem VR.val_eq {g : Ghost} {k : Nat} {u v : Value} (h : VR g k (.pv (.val u)) v) : v = u := by
  cases h with | pv hp => cases hp; rfl

def PV.one : PV → Bool
  | .val v => v.oneCell'
  | .lst _ _ => true
  | .agg _ => false
def AV.one : AV → Bool
  | .any => false
  | .pv p => p.one
  | .agg _ => false
  | .tup _ => false
  | _ => true
theorem VRp.one {I : Imm} {p : PV} {v : Value} (h : VRp I p v) (ho : p.one = true) : v.oneCell' = true := by
  cases h <;> simp_all [PV.one, Value.oneCell']
theorem VR.one {g : Ghost} {k : Nat} {x : AV} {v : Value} (h : VR g k x v) (ho : x.one = true) : v.oneCell' = true := by
  cases h with
  | pv hp => exact hp.one ho
  | _ => simp_all [AV.one, Value.oneCell']

/-- A list's elements, each of 'es' cells. -/
def AV.list? (es : Nat) : AV → Option (List (List PV))
  | .pv (.val (.slice none 0 0)) => some []
  | .pv (.lst e xs) => if e = es then some xs else none
  | .row _ e xs => if e = es then some xs else none
  | .full e xs => if e = es then some xs else none
  | _ => none
theorem VR.list {g : Ghost} {k es : Nat} {x : AV} {v : Value} {xs : List (List PV)} (h : VR g k x v) (hx : x.list? es = some xs) : VRp g.I (.lst es xs) v := by
  cases h with
  | pv hp =>
    cases hp with
    | val v =>
      unfold AV.list? at hx
      split at hx
      · rename_i heq; injection heq with heq; injection heq with heq; subst heq; injection hx with hx; subst hx; exact .nil es
      all_goals simp_all
    | nil e =>
      simp only [AV.list?] at hx
      split at hx
      · rename_i he; injection hx with hx; subst hx; exact .nil es
      · cases hx
    | emp e a cap =>
      simp only [AV.list?] at hx
      split at hx
      · rename_i he; injection hx with hx; subst hx; exact .emp es a cap
      · cases hx
    | lst e ys b o cap cells hcap hl h1 hw hI hV =>
      simp only [AV.list?] at hx
      split at hx
      · rename_i he; injection hx with hx; subst hx; subst he; exact .lst _ _ b o cap cells hcap hl h1 hw hI hV
      · cases hx
    | agg => simp [AV.list?] at hx
  | rowfull ht hp r =>
    simp only [AV.list?] at hx
    split at hx
    · rename_i he; injection hx with hx; subst hx; subst he; exact r
    · cases hx
  | row ht hp r =>
    simp only [AV.list?] at hx
    split at hx
    · rename_i he; injection hx with hx; subst hx; subst he; exact r
    · cases hx
  | full r =>
    simp only [AV.list?] at hx
    split at hx
    · rename_i he; injection hx with hx; subst hx; subst he; exact r
    · cases hx
  | _ => simp [AV.list?] at hx

/-! ### Types -/
def tBool (P : Program) (t : TypeId) : Bool := match P.underlying t with | some .bool => true | _ => false
def tPtr (P : Program) (t : TypeId) : Bool := match P.underlying t with | some (.pointer _) => true | _ => false
def tStr (P : Program) (t : TypeId) : Bool := match P.underlying t with | some .string => true | _ => false
def tInt (P : Program) (t : TypeId) : Option IntKind := match P.underlying t with | some (.int k) => some k | _ => none
/-- A slice type: its element type, that one's cells and bytes. -/
def tSl (P : Program) (t : TypeId) : Option (TypeId × Nat × Nat) :=
  match P.underlying t with
  | some (.slice e) => match P.info? e with
    | some i => match i.zero with
      | some z => if z.cells.size = i.size ∧ 0 < i.size then some (e, i.size, i.bytes) else none
      | none => none
    | none => none
  | _ => none
theorem tSl_spec {P : Program} {t e : TypeId} {es b : Nat} (h : tSl P t = some (e, es, b)) :
    P.underlying t = some (.slice e) ∧ ∃ i z, P.info? e = some i ∧ i.zero = some z ∧ z.cells.size = i.size ∧ 0 < i.size ∧ es = i.size ∧ b = i.bytes := by
  unfold tSl at h
  split at h
  · rename_i e' hu
    split at h
    · rename_i i hi
      split at h
      · rename_i z hz
        split at h
        · rename_i hc
          simp only [Option.some.injEq, Prod.mk.injEq] at h
          obtain ⟨rfl, rfl, rfl⟩ := h
          exact ⟨hu, i, z, hi, hz, hc.1, hc.2, rfl, rfl⟩
        · cases h
      · cases h
    · cases h
  · cases h
/-- A field's place, where it takes room. -/
def tFld (P : Program) (t : TypeId) (f : Nat) : Option Nat :=
  match P.underlying t with
  | some (.struct fs) => match fs[f]? with
    | some fd => match P.info? fd.type with
      | some i => if i.size = 0 then none else some fd.offset
      | none => none
    | none => none
  | _ => none
/-- A type's cells; is it a struct or an array? -/
def tSA (P : Program) (t : TypeId) : Option (Nat × Bool) :=
  match P.underlying t, P.info? t with
  | some d, some i => some (i.size, match d with | .struct _ | .array _ _ => true | _ => false)
  | _, _ => none
def tZero (P : Program) (t : TypeId) : Option (List Value) := ((P.info? t).bind (·.zero)).map (·.cells.toList)

/-! ### Operators -/
def binI (op : BinOp) (k : IntKind) (x y : Int) : Option (Prop × Value) :=
  match op with
  | .add => some (True, .int k (k.wrap (x + y)))
  | .sub => some (True, .int k (k.wrap (x - y)))
  | .mul => some (True, .int k (k.wrap (x * y)))
  | .quo => some (y ≠ 0, .int k (k.wrap (x.tdiv y)))
  | .rem => some (y ≠ 0, .int k (x.tmod y))
  | .and => some (True, .int k (k.wrap (BitVec.ofInt k.bits x &&& BitVec.ofInt k.bits y).toNat))
  | .or => some (True, .int k (k.wrap (BitVec.ofInt k.bits x ||| BitVec.ofInt k.bits y).toNat))
  | .xor => some (True, .int k (k.wrap (BitVec.ofInt k.bits x ^^^ BitVec.ofInt k.bits y).toNat))
  | .andNot => some (True, .int k (k.wrap (BitVec.ofInt k.bits x &&& ~~~(BitVec.ofInt k.bits y)).toNat))
  | .eql => some (True, .bool (x == y))
  | .neq => some (True, .bool (x != y))
  | .lss => some (True, .bool (decide (x < y)))
  | .leq => some (True, .bool (decide (x ≤ y)))
  | .gtr => some (True, .bool (decide (x > y)))
  | .geq => some (True, .bool (decide (x ≥ y)))
  | _ => none

def binV (P : Program) (op : BinOp) (t : TypeId) (x y : Value) : Option (Prop × Value) :=
  match x, y with
  | .int k a, .int k' b =>
    match op with
    | .shl => some (0 ≤ b, .int k (k.wrap (a * 2 ^ (min b.toNat k.bits))))
    | .shr => some (0 ≤ b, .int k (a.fdiv (2 ^ (min b.toNat k.bits))))
    | op => if k = k' then binI op k a b else none
  | .bool a, .bool b => if tBool P t then (match op with | .eql => some (True, .bool (a == b)) | .neq => some (True, .bool (!(a == b))) | _ => none) else none
  | .string a, .string b =>
    match op with
    | .add => some (((a.size + b.size : Nat) : Int) ≤ 9223372036854775807, .string (a ++ b))
    | .eql => some (True, .bool (a.toList == b.toList))
    | .neq => some (True, .bool (!(a.toList == b.toList)))
    | _ => none
  | _, _ => none

theorem run_equal_bool {P : Program} {t : TypeId} (hu : P.underlying t = some .bool) (a b : Bool) (w : World) : (Op.equal t (.bool a) (.bool b)).run P w = .ok (a == b) w := by
  show (Op.equalIn (9999 + 1) t (.bool a) (.bool b)).run P w = _
  rw [Op.equalIn]
  simp [run_underlying hu]

theorem binV_sound {P : Program} {op : BinOp} {t : TypeId} {x y v : Value} {c : Prop} (h : binV P op t x y = some (c, v)) (hc : c) (X Y : Operand) (w : World) :
    (do eqGuard op t X Y x y; binOp op t x y : Sem Value).run P w = .ok v w := by
  have int : ∀ k a k' b, x = .int k a → y = .int k' b → (do eqGuard op t X Y x y; binOp op t x y : Sem Value).run P w = .ok v w := by
    rintro k a k' b rfl rfl
    simp only [binV] at h
    cases op <;> simp only [binI] at h <;> first
      | (cases h; done)
      | (split at h
         · rename_i hk
           subst hk
           first
             | (cases h; done)
             | (simp only [Option.some.injEq, Prod.mk.injEq] at h
                obtain ⟨h1, rfl⟩ := h
                subst h1
                simp [eqGuard, binOp, Op.intArith, Op.intDiv, Op.intBits, Op.intCmp, hc])
         · cases h)
      | (simp only [Option.some.injEq, Prod.mk.injEq] at h
         obtain ⟨h1, rfl⟩ := h
         subst h1
         have : ¬ b < 0 := by omega
         simp [eqGuard, binOp, Op.shift, this])
  unfold binV at h
  split at h
  · exact int _ _ _ _ rfl rfl
  · rename_i a b
    split at h
    · rename_i hb
      have hu : P.underlying t = some .bool := by
        unfold tBool at hb
        split at hb <;> simp_all
      cases op <;> simp only at h <;> first
        | (cases h; done)
        | (simp only [Option.some.injEq, Prod.mk.injEq] at h
           obtain ⟨h1, rfl⟩ := h
           simp [eqGuard, binOp, run_equal_bool hu])
    · cases h
  · rename_i a b
    cases op <;> simp only at h <;> first
        | (cases h; done)
        | (simp only [Option.some.injEq, Prod.mk.injEq] at h
           obtain ⟨h1, rfl⟩ := h
           subst h1
           first
             | (simp [eqGuard, binOp, Op.stringOp]; done)
             | (have : ¬ (((a.size + b.size : Nat) : Int) > IntKind.i64.max) := by simp [IntKind.max, IntKind.signed, IntKind.bits]; omega
                simp [eqGuard, binOp, Op.stringOp]; omega))
  · cases h

def pickA (q : Bool) (x y : AV) : AV :=
  match x, y with
  | .pv (.val (.bool a)), .pv (.val (.bool b)) => .bool (bif q then a else b)
  | x, y => bif q then x else y
theorem pickA_sound {g : Ghost} {k : Nat} {q : Bool} {x y : AV} {u v : Value} (hx : VR g k x u) (hy : VR g k y v) : VR g k (pickA q x y) (if q then u else v) := by
  unfold pickA
  split
  · have h1 := hx.val_eq; have h2 := hy.val_eq; subst h1; subst h2
    cases q <;> exact .pv (.val _)
  · cases q
    · exact hy
    · exact hx

/-- Pointers and nil. -/
def eqNil (x y : AV) : Option Bool :=
  match x, y with
  | .ptr _ _, .pv (.val (.pointer none)) => some false
  | .ia _ _, .pv (.val (.pointer none)) => some false
  | .pv (.val (.pointer none)), .pv (.val (.pointer none)) => some true
  | _, _ => none

theorem run_equal_ptr {P : Program} {t : TypeId} (hu : tPtr P t = true) {g : Ghost} {k : Nat} {x y : AV} {u v : Value} {b : Bool} (hx : VR g k x u) (hy : VR g k y v) (h : eqNil x y = some b) (w : World) :
    (Op.equal t u v).run P w = .ok b w ∧ (∃ p, u = .pointer p) ∧ v = .pointer none := by
  unfold tPtr at hu
  split at hu
  · rename_i e he
    have hu := he
    unfold eqNil at h
    split at h
    · injection h with h; subst h
      have := hy.val_eq; subst this
      cases hx
      refine ⟨?_, ⟨_, rfl⟩, rfl⟩
      show (Op.equalIn (9999 + 1) _ _ _).run P w = _
      rw [Op.equalIn]
      simp [run_underlying hu]
    · injection h with h; subst h
      have := hy.val_eq; subst this
      cases hx
      refine ⟨?_, ⟨_, rfl⟩, rfl⟩
      show (Op.equalIn (9999 + 1) _ _ _).run P w = _
      rw [Op.equalIn]
      simp [run_underlying hu]
    · injection h with h; subst h
      have := hy.val_eq; subst this
      have := hx.val_eq; subst this
      refine ⟨?_, ⟨_, rfl⟩, rfl⟩
      show (Op.equalIn (9999 + 1) _ _ _).run P w = _
      rw [Op.equalIn]
      simp [run_underlying hu]
    · cases h
  · cases hu

def binA (P : Program) (op : BinOp) (t : TypeId) (x y : AV) : Option (Prop × AV) :=
  match x, y with
  | .pv (.val (.pointer none)), .pv (.val (.pointer none)) => if tPtr P t then (match op with | .eql => some (True, .bool true) | .neq => some (True, .bool false) | _ => none) else none
  | .pv (.val u), .pv (.val v) => (binV P op t u v).map fun r => (r.1, .pv (.val r.2))
  | x, y => if tPtr P t then
      match eqNil x y, op with
      | some b, .eql => some (True, .bool b)
      | some b, .neq => some (True, .bool (!b))
      | _, _ => none
    else none

theorem binA_sound {P : Program} {op : BinOp} {t : TypeId} {x y r : AV} {c : Prop} (h : binA P op t x y = some (c, r)) (hc : c) (X Y : Operand) {g : Ghost} {k : Nat} {u v : Value} (hx : VR g k x u) (hy : VR g k y v) (w : World) :
    ∃ z, (do eqGuard op t X Y u v; binOp op t u v : Sem Value).run P w = .ok z w ∧ VR g k r z := by
  have ptr : tPtr P t = true → ∀ b, eqNil x y = some b → (op = .eql ∧ r = .bool b ∨ op = .neq ∧ r = .bool (!b)) →
      ∃ z, (do eqGuard op t X Y u v; binOp op t u v : Sem Value).run P w = .ok z w ∧ VR g k r z := by
    intro ht b hb hr
    obtain ⟨h1, ⟨p, rfl⟩, rfl⟩ := run_equal_ptr ht hx hy hb w
    rcases hr with ⟨rfl, rfl⟩ | ⟨rfl, rfl⟩
    · exact ⟨_, by simp [eqGuard, binOp, h1], .pv (.val _)⟩
    · exact ⟨_, by simp [eqGuard, binOp, h1], .pv (.val _)⟩
  unfold binA at h
  split at h
  · split at h
    · rename_i ht
      cases op <;> simp only at h <;> first
        | (cases h; done)
        | (simp only [Option.some.injEq, Prod.mk.injEq] at h
           obtain ⟨_, rfl⟩ := h
           exact ptr ht true rfl (by simp))
    · cases h
  · rename_i a b _
    have h1 := hx.val_eq; have h2 := hy.val_eq; subst h1; subst h2
    cases hb : binV P op t u v with
    | none => rw [hb] at h; cases h
    | some q =>
      rw [hb] at h
      simp only [Option.map_some, Option.some.injEq, Prod.mk.injEq] at h
      obtain ⟨rfl, rfl⟩ := h
      exact ⟨_, binV_sound (c := q.1) (v := q.2) hb hc X Y w, .pv (.val _)⟩
  · split at h
    · rename_i ht
      split at h
      · rename_i b hb
        simp only [Option.some.injEq, Prod.mk.injEq] at h
        exact ptr ht b hb (.inl ⟨rfl, h.2.symm⟩)
      · rename_i b hb
        simp only [Option.some.injEq, Prod.mk.injEq] at h
        exact ptr ht b hb (.inr ⟨rfl, h.2.symm⟩)
      · cases h
    · cases h

/-- A list of bytes as such. -/
def bytes? : List (List PV) → Option (List UInt8)
  | [] => some []
  | [.val (.int .u8 n)] :: r => (bytes? r).map (UInt8.ofNat n.toNat :: ·)
  | _ => none
def encB (l : List UInt8) : List (List PV) := l.map fun b => [.val (.int .u8 (b.toNat : Int))]
theorem bytes?_encB (l : List UInt8) : bytes? (encB l) = some l := by
  induction l with
  | nil => rfl
  | cons b l ih => simp only [encB, List.map_cons, bytes?] at *; rw [ih]; simp
abbrev strOf (l : List UInt8) : ByteArray := ⟨l.toArray⟩

def convA (P : Program) (src dst : TypeId) (x : AV) : Option AV :=
  match x with
  | .pv (.val (.int _ n)) => match P.underlying src, tInt P dst with
    | some _, some k => some (.int k (k.wrap n))
    | _, _ => none
  | .pv (.val (.string s)) => if tStr P dst && (P.underlying src).isSome then some (.pv (.val (.string s))) else none
  | x => match tSl P src with
    | some (e, 1, _) => if tInt P e = some .u8 && tStr P dst then
        match x.list? 1 with
        | some xs => (bytes? xs).map fun l => .pv (.val (.string (strOf l)))
        | none => none
      else none
    | _ => none

theorem bytes?_cells {I : Imm} : ∀ {xs : List (List PV)} {l : List UInt8} {cells : List Value}, bytes? xs = some l → Flat I 1 xs cells → ∃ ns : List Int, cells = ns.map (fun n => Value.int .u8 n) ∧ l = ns.map (fun n => UInt8.ofNat n.toNat) := by
  intro xs
  induction xs with
  | nil =>
    intro l cells h hf
    simp only [bytes?, Option.some.injEq] at h
    subst h
    have : cells = [] := List.eq_nil_of_length_eq_zero (by simpa using hf.len)
    subst this
    exact ⟨[], rfl, rfl⟩
  | cons x xs ih =>
    intro l cells h hf
    unfold bytes? at h
    split at h
    · cases ‹_ :: _ = []›
    · rename_i n r heq
      injection heq with h1 h2
      subst h1; subst h2
      cases hb : bytes? xs with
      | none => rw [hb] at h; cases h
      | some l' =>
        rw [hb] at h
        simp only [Option.map_some, Option.some.injEq] at h
        subst h
        have hlen := hf.len
        simp only [List.length_cons, Nat.mul_one] at hlen
        cases cells with
        | nil => simp at hlen
        | cons u cells =>
          have hf' : Flat I 1 xs cells := by
            refine ⟨by simp at hlen ⊢; exact hlen, fun u hu => hf.one u (List.mem_cons_of_mem _ hu), fun i x hx => hf.wide (i + 1) x (by simpa using hx), fun i x j y hx hy => ?_⟩
            have := hf.el (i + 1) x j y (by simpa using hx) hy
            simpa [Nat.add_right_comm] using this
          obtain ⟨ns, h1, h2⟩ := ih hb hf'
          have hu := hf.el 0 [.val (.int .u8 n)] 0 (.val (.int .u8 n)) (by simp) (by simp)
          simp only [Nat.zero_mul, Nat.add_zero, List.getD_cons_zero] at hu
          cases hu
          exact ⟨n :: ns, by simp [h1], by simp [h2]⟩
    · cases h

theorem foldl_push (ns : List Int) : ∀ s : ByteArray, ns.foldl (fun r n => r.push (UInt8.ofNat n.toNat)) s = ⟨s.data ++ (ns.map fun n => UInt8.ofNat n.toNat).toArray⟩ := by
  induction ns with
  | nil => intro s; simp
  | cons n ns ih => intro s; rw [List.foldl_cons, ih]; simp [ByteArray.push]

theorem convA_sound {P : Program} {src dst : TypeId} {x r : AV} (h : convA P src dst x = some r) {F : Base} {g : Ghost} {σ : Store} {w : World} (hS : RelS F g σ w) {u : Value} (hx : VR g σ.next x u) :
    ∃ z, (convert src dst u).run P w = .ok z w ∧ VR g σ.next r z := by
  unfold convA at h
  split at h
  · rename_i k n
    have := hx.val_eq; subst this
    split at h
    · rename_i d k' hd hk
      injection h with h; subst h
      have hu : P.underlying dst = some (.int k') := by
        unfold tInt at hk
        split at hk <;> simp_all
      exact ⟨_, by simp [convert, run_underlying hd, run_underlying hu, Conv.intToInt], .pv (.val _)⟩
    · cases h
  · have := hx.val_eq; subst this
    split at h
    · rename_i hc
      injection h with h; subst h
      simp only [Bool.and_eq_true] at hc
      obtain ⟨d, hd⟩ := Option.isSome_iff_exists.1 hc.2
      have hu : P.underlying dst = some .string := by
        have := hc.1
        unfold tStr at this
        split at this <;> simp_all
      exact ⟨_, by simp [convert, run_underlying hd, run_underlying hu], .pv (.val _)⟩
    · cases h
  · split at h
    · rename_i e b ht
      split at h
      · rename_i hc
        split at h
        · rename_i xs hxs
          obtain ⟨hsl, i, z, hi, hz, hzs, hpos, hes, hb⟩ := tSl_spec ht
          simp only [Bool.and_eq_true, decide_eq_true_eq] at hc
          have he : P.underlying e = some (.int .u8) := by
            have := hc.1
            unfold tInt at this
            split at this <;> simp_all
          have hd : P.underlying dst = some .string := by
            have := hc.2
            unfold tStr at this
            split at this <;> simp_all
          cases hbs : bytes? xs with
          | none => rw [hbs] at h; cases h
          | some l =>
            rw [hbs] at h
            simp only [Option.map_some, Option.some.injEq] at h
            subst h
            obtain ⟨cells, hf, hv⟩ := (hx.list hxs).flat
            obtain ⟨ns, rfl, rfl⟩ := bytes?_cells hbs hf
            rcases hv with ⟨rfl, hxs0⟩ | ⟨a0, cap0, _, rfl, hxs0⟩ | ⟨b, o, cap, rfl, hcap, hI⟩
            · have h0 := hf.len
              rw [hxs0] at h0
              simp at h0
              subst h0
              exact ⟨_, by rw [run_convert_bytes_string w src dst e none 0 0 hsl he hd]; rfl, by simp; exact .pv (.val _)⟩
            · have h0 := hf.len
              rw [hxs0] at h0
              simp at h0
              subst h0
              refine ⟨.string ByteArray.empty, ?_, by simp; exact .pv (.val _)⟩
              have hld : (loadCells a0 0).run P w = .ok (([] : List Int).map (Value.int .u8)).toArray w := by simp [loadCells, loadCellsFrom]
              rw [run_convert_bytes_string w src dst e _ _ _ hsl he hd, run_bytesToString w a0 0 cap0 [] hld]
              rfl
            · have hl := hf.len
              simp only [List.length_map, Nat.mul_one] at hl
              refine ⟨_, ?_, .pv (.val _)⟩
              have hcell : ∀ j v, (ns.map (fun n => Value.int .u8 n))[j]? = some v → w.cell? ((⟨b, o, none⟩ : Addr).add j) = some v := fun j v hj => by
                rw [Addr.add_mk]; exact hS.imm _ _ _ (hI j v hj)
              have hld := run_loadCells_list (P := P) w ⟨b, o, none⟩ _ hcell
              rw [List.length_map] at hld
              rw [run_convert_bytes_string w src dst e _ _ _ hsl he hd, ← hl, run_bytesToString w ⟨b, o, none⟩ ns.length cap ns hld, foldl_push]
              simp
        · cases h
      · cases h
    · cases h
end Go.Proofs.Ytnanpamfdjnomaa.AL
