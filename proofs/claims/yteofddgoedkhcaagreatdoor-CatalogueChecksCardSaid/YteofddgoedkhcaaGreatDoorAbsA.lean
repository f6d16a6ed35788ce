/- The abstract interpreter, part A: block names, maps, abstract values, and what an abstract value says of a value of the model. -/
import Derived.WalkKit
import Derived.RangeFuncLeaves
import Derived.OrdersIn
namespace Go.Abs

/-- Names: binary numbers from one on. -/
inductive Pos where
  | h : Pos
  | o : Pos → Pos
  | i : Pos → Pos

def Pos.succ : Pos → Pos
  | .h => .o .h
  | .o p => .i p
  | .i p => .o p.succ

def Pos.toNat : Pos → Nat
  | .h => 1
  | .o p => 2 * p.toNat
  | .i p => 2 * p.toNat + 1

theorem Pos.toNat_pos : ∀ p : Pos, 0 < p.toNat
  | .h => by simp [Pos.toNat]
  | .o p => by have := p.toNat_pos; simp only [Pos.toNat]; omega
  | .i p => by simp only [Pos.toNat]; omega

theorem Pos.toNat_succ : ∀ p : Pos, p.succ.toNat = p.toNat + 1
  | .h => rfl
  | .o p => rfl
  | .i p => by simp only [Pos.succ, Pos.toNat, p.toNat_succ]; omega

theorem Pos.toNat_inj : ∀ {p q : Pos}, p.toNat = q.toNat → p = q
  | .h, .h, _ => rfl
  | .h, .o q, e => by have := q.toNat_pos; simp only [Pos.toNat] at e; omega
  | .h, .i q, e => by have := q.toNat_pos; simp only [Pos.toNat] at e; omega
  | .o p, .h, e => by have := p.toNat_pos; simp only [Pos.toNat] at e; omega
  | .o p, .o q, e => by simp only [Pos.toNat] at e; rw [Pos.toNat_inj (p := p) (q := q) (by omega)]
  | .o p, .i q, e => by simp only [Pos.toNat] at e; omega
  | .i p, .h, e => by have := p.toNat_pos; simp only [Pos.toNat] at e; omega
  | .i p, .o q, e => by simp only [Pos.toNat] at e; omega
  | .i p, .i q, e => by simp only [Pos.toNat] at e; rw [Pos.toNat_inj (p := p) (q := q) (by omega)]

def Pos.ofNat : Nat → Pos
  | 0 => .h
  | n + 1 => (Pos.ofNat n).succ

theorem Pos.toNat_ofNat : ∀ n, (Pos.ofNat n).toNat = n + 1
  | 0 => rfl
  | n + 1 => by rw [Pos.ofNat, Pos.toNat_succ, Pos.toNat_ofNat n]

theorem Pos.ofNat_inj {m n : Nat} (h : Pos.ofNat m = Pos.ofNat n) : m = n := by
  have := congrArg Pos.toNat h
  rw [Pos.toNat_ofNat, Pos.toNat_ofNat] at this
  omega

/-- Maps from names. -/
inductive PT (α : Type) where
  | lf : PT α
  | nd (l : PT α) (v : Option α) (r : PT α) : PT α

def PT.get {α : Type} : Pos → PT α → Option α
  | _, .lf => none
  | .h, .nd _ v _ => v
  | .o p, .nd l _ _ => PT.get p l
  | .i p, .nd _ _ r => PT.get p r

def PT.put {α : Type} : Pos → Option α → PT α → PT α
  | .h, x, .lf => .nd .lf x .lf
  | .o p, x, .lf => .nd (PT.put p x .lf) none .lf
  | .i p, x, .lf => .nd .lf none (PT.put p x .lf)
  | .h, x, .nd l _ r => .nd l x r
  | .o p, x, .nd l v r => .nd (PT.put p x l) v r
  | .i p, x, .nd l v r => .nd l v (PT.put p x r)

theorem PT.get_lf {α : Type} (p : Pos) : PT.get p (.lf : PT α) = none := by cases p <;> rfl

theorem PT.get_put_same {α : Type} : ∀ (p : Pos) (x : Option α) (t : PT α), PT.get p (PT.put p x t) = x
  | .h, x, .lf => rfl
  | .o p, x, .lf => by simp only [PT.put, PT.get, PT.get_put_same p]
  | .i p, x, .lf => by simp only [PT.put, PT.get, PT.get_put_same p]
  | .h, x, .nd l v r => rfl
  | .o p, x, .nd l v r => by simp only [PT.put, PT.get, PT.get_put_same p]
  | .i p, x, .nd l v r => by simp only [PT.put, PT.get, PT.get_put_same p]

theorem PT.get_put_other {α : Type} : ∀ (p q : Pos) (x : Option α) (t : PT α), q ≠ p → PT.get q (PT.put p x t) = PT.get q t
  | .h, .h, _, _, h => absurd rfl h
  | .h, .o q, x, .lf, _ => by simp only [PT.put, PT.get, PT.get_lf]
  | .h, .i q, x, .lf, _ => by simp only [PT.put, PT.get, PT.get_lf]
  | .h, .o q, x, .nd l v r, _ => rfl
  | .h, .i q, x, .nd l v r, _ => rfl
  | .o p, .h, x, .lf, _ => rfl
  | .o p, .o q, x, .lf, h => by
    simp only [PT.put, PT.get]
    rw [PT.get_put_other p q x .lf (fun e => h (by rw [e])), PT.get_lf]
  | .o p, .i q, x, .lf, _ => by simp only [PT.put, PT.get, PT.get_lf]
  | .o p, .h, x, .nd l v r, _ => rfl
  | .o p, .o q, x, .nd l v r, h => by
    simp only [PT.put, PT.get]
    exact PT.get_put_other p q x l (fun e => h (by rw [e]))
  | .o p, .i q, x, .nd l v r, _ => rfl
  | .i p, .h, x, .lf, _ => rfl
  | .i p, .o q, x, .lf, _ => by simp only [PT.put, PT.get, PT.get_lf]
  | .i p, .i q, x, .lf, h => by
    simp only [PT.put, PT.get]
    rw [PT.get_put_other p q x .lf (fun e => h (by rw [e])), PT.get_lf]
  | .i p, .h, x, .nd l v r, _ => rfl
  | .i p, .o q, x, .nd l v r, _ => rfl
  | .i p, .i q, x, .nd l v r, h => by
    simp only [PT.put, PT.get]
    exact PT.get_put_other p q x r (fun e => h (by rw [e]))

/-- Abstract values. A pointer or a slice names its block; a slice's capacity is known ('ex') or bounded from below. -/
inductive AV where
  | bool (b : Bool)
  | int (k : IntKind) (n : Int)
  | rng (k : IntKind) (lo hi : Int)
  | str (l : List Nat)
  | anys (m : Nat)
  | nilp
  | ptr (id : Pos) (off : Nat)
  | nilsl
  | sl (id : Pos) (off len : Nat) (ex : Bool) (cap es : Nat)
  | nilmap
  | fn (f : Fn) (fs cs : List AV)
  | yld (id : Pos)
  | nilfn
  | ifc (t : TypeId) (v : AV)
  | nilifc
  | agg (l : List AV)
  | tup (l : List AV)
  | any

/-- Where the blocks lie: the model's block, the offset in it, how many cells from there on. -/
abbrev Env := Pos → Option (Nat × Nat × Nat)

mutual
def Rel (ρ : Env) : AV → Value → Prop
  | .bool b, v => v = .bool b
  | .int k n, v => v = .int k n
  | .rng k lo hi, v => ∃ n, lo ≤ n ∧ n ≤ hi ∧ v = .int k n
  | .str l, v => ∃ s : ByteArray, v = .string s ∧ s.data.toList.map UInt8.toNat = l
  | .anys m, v => ∃ s : ByteArray, v = .string s ∧ s.size ≤ m
  | .nilp, v => v = .pointer none
  | .ptr id off, v => ∃ b o m, ρ id = some (b, o, m) ∧ v = .pointer (some ⟨b, o + off, none⟩)
  | .nilsl, v => v = .slice none 0 0
  | .sl id off len ex cap es, v => ∃ b o m c, ρ id = some (b, o, m) ∧ cap ≤ c ∧ (ex = true → c = cap) ∧ off + c * es ≤ m ∧ v = .slice (some ⟨b, o + off, none⟩) len c
  | .nilmap, v => v = .map none
  | .fn f fs cs, v => ∃ fs' cs' : Array Value, v = .func f fs' cs' ∧ RelL ρ fs fs'.toList ∧ RelL ρ cs cs'.toList
  | .yld id, v => ∃ b o m, ρ id = some (b, o, m) ∧ v = .func (.yield b) #[] #[]
  | .nilfn, v => v = .nilFunc
  | .ifc t x, v => ∃ x', v = .iface t x' ∧ Rel ρ x x'
  | .nilifc, v => v = .nilIface
  | .agg l, v => ∃ cs : Array Value, v = .agg cs ∧ RelL ρ l cs.toList
  | .tup l, v => ∃ cs : Array Value, v = .tuple cs ∧ RelL ρ l cs.toList
  | .any, _ => True
def RelL (ρ : Env) : List AV → List Value → Prop
  | [], vs => vs = []
  | a :: l, vs => ∃ v vs', vs = v :: vs' ∧ Rel ρ a v ∧ RelL ρ l vs'
 end

def Env.le (ρ ρ' : Env) : Prop := ∀ id x, ρ id = some x → ρ' id = some x

theorem Env.le_refl (ρ : Env) : ρ.le ρ := fun _ _ h => h
theorem Env.le_trans {a b c : Env} (h : a.le b) (k : b.le c) : a.le c := fun i x e => k i x (h i x e)

mutual
theorem Rel.mono {ρ ρ' : Env} (h : ρ.le ρ') : (a : AV) → {v : Value} → Rel ρ a v → Rel ρ' a v
  | .bool b, _, r => r
  | .int k n, _, r => r
  | .rng k lo hi, _, r => r
  | .str l, _, r => r
  | .anys m, _, r => r
  | .nilp, _, r => r
  | .ptr id off, _, r => by
    simp only [Rel] at r ⊢
    obtain ⟨b, o, m, e, r⟩ := r
    exact ⟨b, o, m, h _ _ e, r⟩
  | .nilsl, _, r => r
  | .sl id off len ex cap es, _, r => by
    simp only [Rel] at r ⊢
    obtain ⟨b, o, m, c, e, r⟩ := r
    exact ⟨b, o, m, c, h _ _ e, r⟩
  | .nilmap, _, r => r
  | .fn f fs cs, _, r => by
    simp only [Rel] at r ⊢
    obtain ⟨fs', cs', e, r1, r2⟩ := r
    exact ⟨fs', cs', e, RelL.mono h fs r1, RelL.mono h cs r2⟩
  | .yld id, _, r => by
    simp only [Rel] at r ⊢
    obtain ⟨b, o, m, e, r⟩ := r
    exact ⟨b, o, m, h _ _ e, r⟩
  | .nilfn, _, r => r
  | .ifc t x, _, r => by
    simp only [Rel] at r ⊢
    obtain ⟨x', e, r⟩ := r
    exact ⟨x', e, Rel.mono h x r⟩
  | .nilifc, _, r => r
  | .agg l, _, r => by
    simp only [Rel] at r ⊢
    obtain ⟨cs, e, r⟩ := r
    exact ⟨cs, e, RelL.mono h l r⟩
  | .tup l, _, r => by
    simp only [Rel] at r ⊢
    obtain ⟨cs, e, r⟩ := r
    exact ⟨cs, e, RelL.mono h l r⟩
  | .any, _, _ => by simp only [Rel]
theorem RelL.mono {ρ ρ' : Env} (h : ρ.le ρ') : (l : List AV) → {vs : List Value} → RelL ρ l vs → RelL ρ' l vs
  | [], _, r => r
  | a :: l, _, r => by
    simp only [RelL] at r ⊢
    obtain ⟨v, vs', e, r1, r2⟩ := r
    exact ⟨v, vs', e, Rel.mono h a r1, RelL.mono h l r2⟩
 end

section
variable {ρ : Env}

theorem RelL.nil : RelL ρ [] [] := by simp [RelL]
theorem RelL.cons {a : AV} {l : List AV} {v : Value} {vs : List Value} (h : Rel ρ a v) (k : RelL ρ l vs) : RelL ρ (a :: l) (v :: vs) := by
  simp only [RelL]
  exact ⟨v, vs, rfl, h, k⟩

theorem RelL.length : ∀ {l : List AV} {vs : List Value}, RelL ρ l vs → l.length = vs.length
  | [], vs, h => by simp only [RelL] at h; subst h; rfl
  | a :: l, vs, h => by
    simp only [RelL] at h
    obtain ⟨v, vs', rfl, _, h⟩ := h
    simp [RelL.length h]

theorem RelL.get : ∀ {l : List AV} {vs : List Value}, RelL ρ l vs → ∀ {i : Nat} {a : AV}, l[i]? = some a → ∃ v, vs[i]? = some v ∧ Rel ρ a v
  | [], vs, h, i, a, e => by simp at e
  | a :: l, vs, h, i, x, e => by
    simp only [RelL] at h
    obtain ⟨v, vs', rfl, h1, h2⟩ := h
    cases i with
    | zero => simp at e; subst e; exact ⟨v, by simp, h1⟩
    | succ i => simp at e; simpa using RelL.get h2 e

theorem RelL.of_get : ∀ {l : List AV} {vs : List Value}, l.length = vs.length → (∀ (i : Nat) (a : AV) (v : Value), l[i]? = some a → vs[i]? = some v → Rel ρ a v) → RelL ρ l vs
  | [], [], _, _ => RelL.nil
  | [], _ :: _, e, _ => by simp at e
  | _ :: _, [], e, _ => by simp at e
  | a :: l, v :: vs, e, h => RelL.cons (h 0 a v (by simp) (by simp)) (RelL.of_get (by simpa using e) (fun i x y hx hy => h (i + 1) x y (by simpa using hx) (by simpa using hy)))

theorem RelL.append {l m : List AV} {vs us : List Value} (h : RelL ρ l vs) (k : RelL ρ m us) : RelL ρ (l ++ m) (vs ++ us) := by
  induction l generalizing vs with
  | nil => simp only [RelL] at h; subst h; simpa using k
  | cons a l ih =>
    simp only [RelL] at h
    obtain ⟨v, vs', rfl, h1, h2⟩ := h
    simpa using RelL.cons h1 (ih h2)

theorem RelL.take {l : List AV} {vs : List Value} (h : RelL ρ l vs) (n : Nat) : RelL ρ (l.take n) (vs.take n) := by
  induction l generalizing vs n with
  | nil => simp only [RelL] at h; subst h; simp [RelL]
  | cons a l ih =>
    simp only [RelL] at h
    obtain ⟨v, vs', rfl, h1, h2⟩ := h
    cases n with
    | zero => simp [RelL]
    | succ n => simpa using RelL.cons h1 (ih h2 n)

theorem RelL.drop {l : List AV} {vs : List Value} (h : RelL ρ l vs) (n : Nat) : RelL ρ (l.drop n) (vs.drop n) := by
  induction l generalizing vs n with
  | nil => simp only [RelL] at h; subst h; simp [RelL]
  | cons a l ih =>
    simp only [RelL] at h
    obtain ⟨v, vs', rfl, h1, h2⟩ := h
    cases n with
    | zero => simpa using RelL.cons h1 h2
    | succ n => simpa using ih h2 n
end

/-- An abstract value that names no block, of a value that does. -/
def ofVal : Value → Option AV
  | .bool b => some (.bool b)
  | .int k n => some (.int k n)
  | .string s => some (.str (s.data.toList.map UInt8.toNat))
  | .pointer none => some .nilp
  | .slice none 0 0 => some .nilsl
  | .map none => some .nilmap
  | .nilFunc => some .nilfn
  | .nilIface => some .nilifc
  | _ => none

theorem ofVal_rel {ρ : Env} {v : Value} {a : AV} (h : ofVal v = some a) : Rel ρ a v := by
  unfold ofVal at h
  split at h <;> simp only [Option.some.injEq, reduceCtorEq] at h <;> subst h <;> simp [Rel]

def ofVals : List Value → Option (List AV)
  | [] => some []
  | v :: vs => match ofVal v, ofVals vs with
    | some a, some l => some (a :: l)
    | _, _ => none

theorem ofVals_rel {ρ : Env} : ∀ {vs : List Value} {l : List AV}, ofVals vs = some l → RelL ρ l vs
  | [], l, h => by simp [ofVals] at h; subst h; exact RelL.nil
  | v :: vs, l, h => by
    simp only [ofVals] at h
    split at h
    · rename_i a m h1 h2
      simp at h; subst h
      exact RelL.cons (ofVal_rel h1) (ofVals_rel h2)
    · cases h

/-- What of a constant: a plain one, or an aggregate of plain ones. -/
def ofConst : Value → Option AV
  | .agg cs => (ofVals cs.toList).map .agg
  | .tuple cs => (ofVals cs.toList).map .tup
  | v => ofVal v

theorem ofConst_rel {ρ : Env} {v : Value} {a : AV} (h : ofConst v = some a) : Rel ρ a v := by
  unfold ofConst at h
  split at h
  · simp only [Option.map_eq_some_iff] at h
    obtain ⟨l, h, rfl⟩ := h
    simp only [Rel]
    exact ⟨_, rfl, ofVals_rel h⟩
  · simp only [Option.map_eq_some_iff] at h
    obtain ⟨l, h, rfl⟩ := h
    simp only [Rel]
    exact ⟨_, rfl, ofVals_rel h⟩
  · exact ofVal_rel h

/-- The cells of an abstract value. -/
def AV.cells : AV → List AV
  | .agg l => l
  | v => [v]

/-- An abstract value that is surely the value of one cell. -/
def AV.one : AV → Bool
  | .agg _ => false
  | .tup _ => false
  | .any => false
  | _ => true

theorem Rel.one {ρ : Env} {a : AV} {v : Value} (h : Rel ρ a v) (ha : a.one = true) : v.oneCell' = true := by
  cases a <;> simp only [AV.one, Bool.false_eq_true] at ha <;> simp only [Rel] at h <;>
    first
      | (subst h; rfl)
      | (obtain ⟨_, rfl, _⟩ := h; rfl)
      | (obtain ⟨_, _, rfl, _⟩ := h; rfl)
      | (obtain ⟨_, _, _, rfl⟩ := h; rfl)
      | (obtain ⟨_, _, _, _, rfl⟩ := h; rfl)
      | (obtain ⟨_, _, _, _, _, _, _, _, rfl⟩ := h; rfl)

/-- 'any' may be an aggregate: its cells are not known. -/
def AV.flat : AV → Bool
  | .any => false
  | _ => true

theorem Rel.cells {ρ : Env} {a : AV} {v : Value} (h : Rel ρ a v) (ha : a.flat = true) : RelL ρ a.cells v.cells.toList := by
  cases a <;> simp only [AV.flat, Bool.false_eq_true] at ha <;>
    first
      | (have h' := h; simp only [Rel] at h'
         first
           | (subst h'; exact RelL.cons h RelL.nil)
           | (obtain ⟨_, rfl, _⟩ := h'; exact RelL.cons h RelL.nil)
           | (obtain ⟨_, _, rfl, _⟩ := h'; exact RelL.cons h RelL.nil)
           | (obtain ⟨_, _, _, rfl⟩ := h'; exact RelL.cons h RelL.nil)
           | (obtain ⟨_, _, _, _, rfl⟩ := h'; exact RelL.cons h RelL.nil)
           | (obtain ⟨_, _, _, _, _, _, _, _, rfl⟩ := h'; exact RelL.cons h RelL.nil)
           | (obtain ⟨cs, rfl, h'⟩ := h'; exact h'))
end Go.Abs
