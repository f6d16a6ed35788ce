/- The abstract interpreter, part E: the operations that touch no memory: what they are made from, what they give, and that this is so. -/
import Derived.Test.YteofddgoedkhcaaGreatDoorAbsD
namespace Go.Abs

def frcB {α : Type} (b : Bool) (k : Bool → α) : α := match b with
  | true => k true
  | false => k false
theorem frcB_eq {α : Type} (b : Bool) (k : Bool → α) : frcB b k = k b := by cases b <;> rfl

def eqkOf (P : Program) (t : TypeId) : EqK :=
  match P.underlying t with
  | some .bool => .bool
  | some (.slice _) => .slice
  | some (.pointer _) => .ptr
  | some (.func _ _ _) => .fn
  | _ => .no

/-- The kinds of the cells of a type that is compared cell by cell. -/
def eqsOf (P : Program) (t : TypeId) : List Nat :=
  if agOf P t = some true then (if P.eqGuardType P.depth t then [] else (eqT P 20 t).getD []) else []

def mkInt (k : IntKind) (n : Int) : Option AV := frcI n fun n => some (.int k n)
def mkBool (b : Bool) : Option AV := frcB b fun b => some (.bool b)

def asRng : AV → Option (IntKind × Int × Int)
  | .int k n => some (k, n, n)
  | .rng k lo hi => some (k, lo, hi)
  | _ => none

def mkRng (k : IntKind) (lo hi : Int) : Option AV := if rngIn k lo hi then frcI lo fun lo => frcI hi fun hi => some (.rng k lo hi) else none

def rngA (op : BinOp) (k : IntKind) (a b c d : Int) : Option AV :=
  match op with
  | .add => mkRng k (a + c) (b + d)
  | .sub => mkRng k (a - d) (b - c)
  | .mul =>
    if 0 ≤ a ∧ 0 ≤ c then mkRng k (a * c) (b * d)
    else if c = d then (if 0 ≤ c then mkRng k (a * c) (b * c) else mkRng k (b * c) (a * c))
    else if a = b then (if 0 ≤ a then mkRng k (c * a) (d * a) else mkRng k (d * a) (c * a))
    else none
  | .rem => if 0 ≤ a ∧ c = d ∧ 0 < c then mkRng k 0 (c - 1) else none
  | .eql => if b < c ∨ d < a then some (.bool false) else none
  | .neq => if b < c ∨ d < a then some (.bool true) else none
  | .lss => if b < c then some (.bool true) else if d ≤ a then some (.bool false) else none
  | .leq => if b ≤ c then some (.bool true) else if d < a then some (.bool false) else none
  | .gtr => if d < a then some (.bool true) else if b ≤ c then some (.bool false) else none
  | .geq => if d ≤ a then some (.bool true) else if b < c then some (.bool false) else none
  | _ => none

def binI (op : BinOp) (k : IntKind) (a : Int) (k' : IntKind) (b : Int) : Option AV :=
  match op with
  | .shl => match shiftI .shl k a b with
    | some n => mkInt k n
    | none => none
  | .shr => match shiftI .shr k a b with
    | some n => mkInt k n
    | none => none
  | _ => if k = k' then (match arith op k a b with
      | some n => mkInt k n
      | none => match cmpI op a b with
        | some r => mkBool r
        | none => none) else none

def cmpS (op : BinOp) (l m : List Nat) : Option AV :=
  match op with
  | .add => if l.length + m.length ≤ 9223372036854775807 then some (.str (l ++ m)) else none
  | .eql => mkBool (beqN l m)
  | .neq => mkBool (!beqN l m)
  | _ => none

def eqB (op : BinOp) (b : Bool) : Option AV :=
  match op with
  | .eql => mkBool b
  | .neq => mkBool (!b)
  | _ => none

def binA (op : BinOp) (ek : EqK) (ks : List Nat) (x y : AV) : Option AV :=
  match x with
  | .int k a => match y with
    | .int k' b => binI op k a k' b
    | .rng k' c d => if k = k' then rngA op k a a c d else none
    | _ => none
  | .rng k a b => match y with
    | .int k' c => if k = k' then rngA op k a b c c else none
    | .rng k' c d => if k = k' then rngA op k a b c d else none
    | _ => none
  | .str l => match y with
    | .str m => cmpS op l m
    | _ => none
  | .bool a => match ek, y with
    | .bool, .bool b => eqB op (a == b)
    | _, _ => none
  | .sl _ _ _ _ _ _ => match ek, y with
    | .slice, .nilsl => eqB op false
    | _, _ => none
  | .nilsl => match ek, y with
    | .slice, .nilsl => eqB op true
    | .slice, .sl _ _ _ _ _ _ => eqB op false
    | _, _ => none
  | .ptr _ _ => match ek, y with
    | .ptr, .nilp => eqB op false
    | _, _ => none
  | .nilp => match ek, y with
    | .ptr, .nilp => eqB op true
    | .ptr, .ptr _ _ => eqB op false
    | _, _ => none
  | .fn _ _ _ => match ek, y with
    | .fn, .nilfn => eqB op false
    | _, _ => none
  | .nilfn => match ek, y with
    | .fn, .nilfn => eqB op true
    | .fn, .fn _ _ _ => eqB op false
    | _, _ => none
  | .agg l => match ks, y with
    | [], _ => none
    | k :: ks, .agg m => match eqCells (k :: ks) l m with
      | some r => eqB op r
      | none => none
    | _, _ => none
  | _ => none

section
variable {P : Program} {ρ : Env}

theorem mkInt_eq (k : IntKind) (n : Int) : mkInt k n = some (.int k n) := frcI_eq _ _
theorem mkBool_eq (b : Bool) : mkBool b = some (.bool b) := frcB_eq _ _
theorem mkRng_some {k : IntKind} {lo hi : Int} {v : AV} (h : mkRng k lo hi = some v) : v = .rng k lo hi ∧ k.min ≤ lo ∧ hi ≤ k.max := by
  unfold mkRng at h
  split at h
  · rename_i hr
    rw [frcI_eq, frcI_eq] at h
    simp at h
    simp [rngIn] at hr
    exact ⟨h.symm, hr.1, hr.2⟩
  · cases h

theorem run_bin_rng {op : BinOp} {k : IntKind} {a b c d m n : Int} {v : AV} (h : rngA op k a b c d = some v) (h1 : a ≤ m) (h2 : m ≤ b) (h3 : c ≤ n) (h4 : n ≤ d) (t : TypeId) :
    ∃ v', (∀ w, (binOp op t (.int k m) (.int k n)).run P w = .ok v' w) ∧ Rel ρ v v' := by
  have arr : ∀ {lo hi r : Int}, mkRng k lo hi = some v → lo ≤ r → r ≤ hi → arith op k m n = some (k.wrap r) → ∃ v', (∀ w, (binOp op t (.int k m) (.int k n)).run P w = .ok v' w) ∧ Rel ρ v v' := by
    intro lo hi r hm q1 q2 ha
    obtain ⟨rfl, e1, e2⟩ := mkRng_some hm
    refine ⟨_, fun w => arith_sound ha t w, ?_⟩
    rw [wrap_in (by omega) (by omega)]
    simp only [Rel]
    exact ⟨r, q1, q2, rfl⟩
  have cmp : ∀ {r : Bool}, v = .bool r → cmpI op m n = some r → ∃ v', (∀ w, (binOp op t (.int k m) (.int k n)).run P w = .ok v' w) ∧ Rel ρ v v' := by
    intro r hv hc
    subst hv
    exact ⟨_, fun w => cmpI_sound hc t k w, by simp [Rel]⟩
  cases op <;> simp only [rngA, reduceCtorEq] at h
  · exact arr h (by omega) (by omega) rfl
  · exact arr h (by omega) (by omega) rfl
  · split at h
    · rename_i hp
      exact arr h (Int.mul_le_mul h1 h3 hp.2 (by omega)) (Int.mul_le_mul h2 h4 (by omega) (by omega)) rfl
    · split at h
      · rename_i hcd
        subst hcd
        obtain rfl : n = c := by omega
        split at h
        · rename_i hc
          exact arr h (Int.mul_le_mul_of_nonneg_right h1 hc) (Int.mul_le_mul_of_nonneg_right h2 hc) rfl
        · rename_i hc
          exact arr h (Int.mul_le_mul_of_nonpos_right h2 (by omega)) (Int.mul_le_mul_of_nonpos_right h1 (by omega)) rfl
      · split at h
        · rename_i hab
          subst hab
          obtain rfl : m = a := by omega
          split at h
          · rename_i hc
            exact arr (r := m * n) h (by rw [Int.mul_comm m n]; exact Int.mul_le_mul_of_nonneg_right h3 hc) (by rw [Int.mul_comm m n]; exact Int.mul_le_mul_of_nonneg_right h4 hc) rfl
          · rename_i hc
            exact arr (r := m * n) h (by rw [Int.mul_comm m n]; exact Int.mul_le_mul_of_nonpos_right h4 (by omega)) (by rw [Int.mul_comm m n]; exact Int.mul_le_mul_of_nonpos_right h3 (by omega)) rfl
        · cases h
  · split at h
    · rename_i hp
      obtain ⟨p1, p2, p3⟩ := hp
      subst p2
      obtain rfl : n = c := by omega
      have t1 := Int.tmod_nonneg n (show 0 ≤ m by omega)
      have t2 := Int.tmod_lt_of_pos m p3
      obtain ⟨rfl, e1, e2⟩ := mkRng_some h
      refine ⟨_, fun w => arith_sound (show arith .rem k m n = some (m.tmod n) by simp only [arith]; rw [if_neg (by omega)]) t w, ?_⟩
      simp only [Rel]
      exact ⟨_, t1, by omega, rfl⟩
    · cases h
  all_goals
    (repeat' split at h) <;> first
      | (cases h; done)
      | (simp at h; subst h; refine cmp rfl ?_; simp [cmpI]; omega)

theorem run_binI {op : BinOp} {k k' : IntKind} {a b : Int} {v : AV} (h : binI op k a k' b = some v) (t : TypeId) :
    ∃ v', (∀ w, (binOp op t (.int k a) (.int k' b)).run P w = .ok v' w) ∧ Rel ρ v v' := by
  unfold binI at h
  split at h
  · split at h
    · rename_i n hn
      rw [mkInt_eq] at h; simp at h; subst h
      exact ⟨_, fun w => shiftI_sound hn t w, by simp [Rel]⟩
    · cases h
  · split at h
    · rename_i n hn
      rw [mkInt_eq] at h; simp at h; subst h
      exact ⟨_, fun w => shiftI_sound hn t w, by simp [Rel]⟩
    · cases h
  · split at h
    · rename_i hk
      subst hk
      split at h
      · rename_i n hn
        rw [mkInt_eq] at h; simp at h; subst h
        exact ⟨_, fun w => arith_sound hn t w, by simp [Rel]⟩
      · split at h
        · rename_i r hr
          rw [mkBool_eq] at h; simp at h; subst h
          exact ⟨_, fun w => cmpI_sound hr t k w, by simp [Rel]⟩
        · cases h
    · cases h

theorem eqB_some {op : BinOp} {b : Bool} {v : AV} (h : eqB op b = some v) : (op = .eql ∧ v = .bool b) ∨ (op = .neq ∧ v = .bool (!b)) := by
  cases op <;> simp [eqB, mkBool_eq] at h <;> subst h <;> simp

theorem run_eqB {op : BinOp} {b : Bool} {v : AV} (h : eqB op b = some v) {t : TypeId} {x y : Value} (hq : ∀ w, (Op.equal t x y).run P w = .ok b w)
    (h1 : binOp .eql t x y = (do pure (.bool (← Op.equal t x y)))) (h2 : binOp .neq t x y = (do pure (.bool (!(← Op.equal t x y))))) :
    ∃ v', (∀ w, (binOp op t x y).run P w = .ok v' w) ∧ Rel ρ v v' := by
  rcases eqB_some h with ⟨rfl, rfl⟩ | ⟨rfl, rfl⟩
  · exact ⟨.bool b, fun w => by rw [h1]; simp [hq w], by simp [Rel]⟩
  · exact ⟨.bool (!b), fun w => by rw [h2]; simp [hq w], by simp [Rel]⟩
end
end Go.Abs
