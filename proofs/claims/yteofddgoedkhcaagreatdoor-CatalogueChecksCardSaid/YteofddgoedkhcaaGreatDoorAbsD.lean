/- The abstract interpreter, part D: the operations that touch no memory: what they are made from, what they give, and that this is so. -/
import Derived.Test.YteofddgoedkhcaaGreatDoorAbsC
namespace Go.Abs

/-- A number looked at before it is handed on. -/
def frcN {α : Type} (n : Nat) (k : Nat → α) : α := match n with
  | 0 => k 0
  | m + 1 => k (Nat.succ m)
theorem frcN_eq {α : Type} (n : Nat) (k : Nat → α) : frcN n k = k n := by cases n <;> rfl
def frcI {α : Type} (z : Int) (k : Int → α) : α := match z with
  | .ofNat n => frcN n fun n => k (.ofNat n)
  | .negSucc n => frcN n fun n => k (.negSucc n)
theorem frcI_eq {α : Type} (z : Int) (k : Int → α) : frcI z k = k z := by cases z <;> simp [frcI, frcN_eq]

/-- Operands. -/
def cox (gs : List Nat) : Operand → Option AX
  | .tmp t => some (.t (Pos.ofNat t))
  | .const v => (ofConst v).map .c
  | .global g => if gs.contains g then some (.c (.ptr (Pos.ofNat g) 0)) else none
  | .func f => some (.c (.fn (.func f) [] []))

def coxs (gs : List Nat) : List Operand → Option (List AX)
  | [] => some []
  | x :: xs => match cox gs x, coxs gs xs with
    | some a, some l => some (a :: l)
    | _, _ => none

def coxo (gs : List Nat) : Option Operand → Option (Option AX)
  | none => some none
  | some x => (cox gs x).map some

/-- What is asked of the operands' values: 'e' of the abstract ones, 'η' of the model's. -/
def Evs (gs : List Nat) (ρ : Env) (e : AX → AV) (η : Operand → Value) : Prop := ∀ x ax, cox gs x = some ax → Rel ρ (e ax) (η x)

theorem Evs.list {gs : List Nat} {ρ : Env} {e : AX → AV} {η : Operand → Value} (h : Evs gs ρ e η) : ∀ {xs : List Operand} {l : List AX}, coxs gs xs = some l → RelL ρ (l.map e) (xs.map η)
  | [], l, q => by simp [coxs] at q; subst q; exact RelL.nil
  | x :: xs, l, q => by
    simp only [coxs] at q
    split at q
    · rename_i a m h1 h2
      simp at q; subst q
      exact RelL.cons (h _ _ h1) (h.list h2)
    · cases q

/-- The number of a type's cells; is it an aggregate? -/
def szOf (P : Program) (t : TypeId) : Option Nat := (P.info? t).map (·.size)
def agOf (P : Program) (t : TypeId) : Option Bool := (P.underlying t).map fun
  | .struct _ => true
  | .array _ _ => true
  | _ => false
def zeroOf (P : Program) (t : TypeId) : Option (List AV) := (P.info? t).bind fun i => i.zero.bind fun z => ofVals z.cells.toList

section
variable {P : Program} (w : World)
theorem run_sizeOf {t : TypeId} {n : Nat} (h : szOf P t = some n) : (sizeOf t).run P w = .ok n w := by
  unfold szOf at h
  simp only [Option.map_eq_some_iff] at h
  obtain ⟨i, hi, rfl⟩ := h
  simp [sizeOf, typeInfo, hi]
theorem run_isAgg {t : TypeId} {b : Bool} (h : agOf P t = some b) : (isAgg t).run P w = .ok b w := by
  unfold agOf at h
  simp only [Option.map_eq_some_iff] at h
  obtain ⟨d, hd, rfl⟩ := h
  cases d <;> simp [isAgg, run_underlying hd]
theorem run_zeroValue {ρ : Env} {t : TypeId} {z : List AV} (h : zeroOf P t = some z) : ∃ v : Value, (∀ w, (zeroValue t).run P w = .ok v w) ∧ RelL ρ z v.cells.toList := by
  unfold zeroOf at h
  simp only [Option.bind_eq_some_iff] at h
  obtain ⟨i, hi, v, hv, hz⟩ := h
  exact ⟨v, fun w => by simp [zeroValue, typeInfo, hi, hv], ofVals_rel hz⟩
end

/-! ### Integers -/
def arith (op : BinOp) (k : IntKind) (a b : Int) : Option Int :=
  match op with
  | .add => some (k.wrap (a + b))
  | .sub => some (k.wrap (a - b))
  | .mul => some (k.wrap (a * b))
  | .quo => if b = 0 then none else some (k.wrap (a.tdiv b))
  | .rem => if b = 0 then none else some (a.tmod b)
  | .and => some (bits .and k a b)
  | .or => some (bits .or k a b)
  | .xor => some (bits .xor k a b)
  | .andNot => some (bits .andNot k a b)
  | _ => none

def cmpI (op : BinOp) (a b : Int) : Option Bool :=
  match op with
  | .eql => some (a == b)
  | .neq => some (a != b)
  | .lss => some (decide (a < b))
  | .leq => some (decide (a ≤ b))
  | .gtr => some (decide (b < a))
  | .geq => some (decide (b ≤ a))
  | _ => none

def shiftI (op : BinOp) (k : IntKind) (x y : Int) : Option Int :=
  if y < 0 then none else
  match op with
  | .shl => some (k.wrap (x * 2 ^ (min y.toNat k.bits)))
  | .shr => some (x.fdiv (2 ^ (min y.toNat k.bits)))
  | _ => none

theorem arith_sound {P : Program} {op : BinOp} {k : IntKind} {a b n : Int} (h : arith op k a b = some n) (t : TypeId) (w : World) : (binOp op t (.int k a) (.int k b)).run P w = .ok (.int k n) w := by
  cases op <;> simp only [arith, Option.some.injEq, reduceCtorEq] at h
  · subst h; simp [binOp_add, Op.intArith]
  · subst h; simp [binOp_sub, Op.intArith]
  · subst h; simp [binOp_mul, Op.intArith]
  · split at h
    · cases h
    · rename_i hb
      simp at h; subst h
      simp [binOp_quo, Op.intDiv, hb]
  · split at h
    · cases h
    · rename_i hb
      simp at h; subst h
      simp [binOp_rem, Op.intDiv, hb]
  · subst h; simp [binOp_and, intBits_and]
  · subst h; simp [binOp_or, intBits_or]
  · subst h; simp [binOp_xor, intBits_xor]
  · subst h; simp [binOp_andNot, intBits_andNot]

theorem cmpI_sound {P : Program} {op : BinOp} {a b : Int} {r : Bool} (h : cmpI op a b = some r) (t : TypeId) (k : IntKind) (w : World) : (binOp op t (.int k a) (.int k b)).run P w = .ok (.bool r) w := by
  cases op <;> simp only [cmpI, Option.some.injEq, reduceCtorEq] at h <;> subst h
  · simp [binOp_eql]
  · simp [binOp_neq]
  · simp [binOp_lss]
  · simp [binOp_leq]
  · simp [binOp_gtr]
  · simp [binOp_geq]

theorem shiftI_sound {P : Program} {op : BinOp} {k yk : IntKind} {a b n : Int} (h : shiftI op k a b = some n) (t : TypeId) (w : World) : (binOp op t (.int k a) (.int yk b)).run P w = .ok (.int k n) w := by
  unfold shiftI at h
  split at h
  · cases h
  · rename_i hb
    cases op <;> simp only [Option.some.injEq, reduceCtorEq] at h <;> subst h
    · simp [binOp_shl, Op.shift, hb]
    · simp [binOp_shr, Op.shift, hb]

theorem eqGuard_int {P : Program} (op : BinOp) (t : TypeId) (x y : Operand) (k : IntKind) (n : Int) (v : Value) (w : World) : (eqGuard op t x y (.int k n) v).run P w = .ok () w := by
  rw [eqGuard_at_int]; rfl

/-- Bounds of a kind. -/
def rngIn (k : IntKind) (lo hi : Int) : Bool := decide (k.min ≤ lo) && decide (hi ≤ k.max)

theorem wrap_in {k : IntKind} {n : Int} (h1 : k.min ≤ n) (h2 : n ≤ k.max) : k.wrap n = n := by
  cases k <;> simp [IntKind.min, IntKind.max, IntKind.bits, IntKind.signed, IntKind.wrap] at * <;> (try split) <;> omega

/-! ### Strings: bytes as numbers -/
theorem bytes_inj : ∀ {l m : List UInt8}, l.map UInt8.toNat = m.map UInt8.toNat → l = m
  | [], [], _ => rfl
  | [], _ :: _, h => by simp at h
  | _ :: _, [], h => by simp at h
  | a :: l, b :: m, h => by
    simp at h
    rw [bytes_inj h.2, UInt8.toNat_inj.1 h.1]

def beqN : List Nat → List Nat → Bool
  | [], [] => true
  | a :: l, b :: m => if Nat.beq a b then beqN l m else false
  | _, _ => false

theorem beqN_eq : ∀ (l m : List Nat), beqN l m = decide (l = m)
  | [], [] => by simp [beqN]
  | [], _ :: _ => by simp [beqN]
  | _ :: _, [] => by simp [beqN]
  | a :: l, b :: m => by
    simp only [beqN]
    by_cases h : a = b
    · subst h; simp [beqN_eq l m]
    · have : Nat.beq a b = false := by
        cases hb : Nat.beq a b with
        | false => rfl
        | true => exact absurd (Nat.eq_of_beq_eq_true hb) h
      rw [this]; simp [h]

theorem str_beq {s u : ByteArray} {l m : List Nat} (h1 : s.data.toList.map UInt8.toNat = l) (h2 : u.data.toList.map UInt8.toNat = m) : (s.toList == u.toList) = beqN l m := by
  subst h1; subst h2
  rw [ByteArray.toList_eq, ByteArray.toList_eq, beqN_eq]
  by_cases h : s.data.toList = u.data.toList
  · rw [h]; simp
  · have h2 : ¬ (s.data.toList.map UInt8.toNat = u.data.toList.map UInt8.toNat) := fun e => h (bytes_inj e)
    rw [decide_eq_false h2, beq_eq_false_iff_ne]
    exact h

theorem str_size {s : ByteArray} {l : List Nat} (h : s.data.toList.map UInt8.toNat = l) : s.size = l.length := by
  subst h; simp

/-! ### Equality of aggregates of plain cells -/
/-- Is the type one of plain cells, one after another? Their kinds: 0 bool, 1 int, 2 string. -/
def eqFs (P : Program) (rec : TypeId → Option (List Nat)) : List Field → Nat → Option (List Nat)
  | [], _ => some []
  | f :: fs, off =>
    if f.name = "_" then none else
    if f.offset = off then
      match rec f.type with
      | some ks =>
        if szOf P f.type = some ks.length ∧ 0 < ks.length then
          match eqFs P rec fs (off + ks.length) with
          | some r => some (ks ++ r)
          | none => none
        else none
      | none => none
    else none

def reps (ks : List Nat) : Nat → List Nat
  | 0 => []
  | n + 1 => ks ++ reps ks n

def eqT (P : Program) : Nat → TypeId → Option (List Nat)
  | 0, _ => none
  | d + 1, t =>
    match P.underlying t with
    | some .bool => some [0]
    | some (.int _) => some [1]
    | some .string => some [2]
    | some (.struct fs) => if P.stoodInHeld t then none else eqFs P (eqT P d) fs.toList 0
    | some (.array len e) =>
      match eqT P d e with
      | some ks => if szOf P e = some ks.length ∧ 0 < ks.length then some (reps ks len) else none
      | none => none
    | _ => none

def eqCells : List Nat → List AV → List AV → Option Bool
  | [], [], [] => some true
  | 0 :: ks, .bool a :: l, .bool b :: m => match eqCells ks l m with
    | some r => some ((a == b) && r)
    | none => none
  | 1 :: ks, .int k a :: l, .int k' b :: m => if k = k' then match eqCells ks l m with
    | some r => some (decide (a = b) && r)
    | none => none
    else none
  | 2 :: ks, .str a :: l, .str b :: m => match eqCells ks l m with
    | some r => some (beqN a b && r)
    | none => none
  | _, _, _ => none

theorem eqCells_split : ∀ (ks rs : List Nat) (xs ys : List AV) {r : Bool}, eqCells (ks ++ rs) xs ys = some r →
    ∃ r1 r2, eqCells ks (xs.take ks.length) (ys.take ks.length) = some r1 ∧ eqCells rs (xs.drop ks.length) (ys.drop ks.length) = some r2 ∧ r = (r1 && r2)
  | [], rs, xs, ys, r, h => ⟨true, r, by simp [eqCells], by simpa using h, by simp⟩
  | k :: ks, rs, xs, ys, r, h => by
    rw [List.cons_append] at h
    unfold eqCells at h
    split at h
    · simp at *
    · rename_i k' a l b m e1
      injection e1 with e1 e2; subst e1; subst e2
      split at h
      · rename_i q hq
        obtain ⟨r1, r2, h1, h2, h3⟩ := eqCells_split ks rs l m hq
        simp at h; subst h
        exact ⟨(a == b) && r1, r2, by simp [eqCells, h1], by simpa using h2, by rw [h3, Bool.and_assoc]⟩
      · cases h
    · rename_i k1 k' a l k2 b m e1
      injection e1 with e1 e2; subst e1; subst e2
      split at h
      · rename_i hk
        split at h
        · rename_i q hq
          obtain ⟨r1, r2, h1, h2, h3⟩ := eqCells_split ks rs l m hq
          simp at h; subst h
          exact ⟨decide (a = b) && r1, r2, by simp [eqCells, h1, hk], by simpa using h2, by rw [h3, Bool.and_assoc]⟩
        · cases h
      · cases h
    · rename_i k' a l b m e1
      injection e1 with e1 e2; subst e1; subst e2
      split at h
      · rename_i q hq
        obtain ⟨r1, r2, h1, h2, h3⟩ := eqCells_split ks rs l m hq
        simp at h; subst h
        exact ⟨beqN a b && r1, r2, by simp [eqCells, h1], by simpa using h2, by rw [h3, Bool.and_assoc]⟩
      · cases h
    · cases h

theorem eqCells_len : ∀ {ks : List Nat} {xs ys : List AV} {r : Bool}, eqCells ks xs ys = some r → xs.length = ks.length ∧ ys.length = ks.length
  | ks, xs, ys, r, h => by
    unfold eqCells at h
    split at h
    · simp
    · split at h
      · rename_i q hq; have := eqCells_len hq; simp [this.1, this.2]
      · cases h
    · split at h
      · split at h
        · rename_i q hq; have := eqCells_len hq; simp [this.1, this.2]
        · cases h
      · cases h
    · split at h
      · rename_i q hq; have := eqCells_len hq; simp [this.1, this.2]
      · cases h
    · cases h

/-- A value of a type, and its cells. -/
def CellsOf (P : Program) (t : TypeId) (x : Value) (cs : List Value) : Prop :=
  (agOf P t = some true ∧ x = .agg cs.toArray) ∨ (agOf P t = some false ∧ cs = [x])

theorem run_part {P : Program} {t : TypeId} {cs : List Value} {off n : Nat} (hag : (agOf P t).isSome = true) (hs : szOf P t = some n) (hlen : off + n ≤ cs.length) (h1 : agOf P t = some false → n = 1) :
    ∃ v, (∀ w, (part t cs.toArray off).run P w = .ok v w) ∧ CellsOf P t v ((cs.drop off).take n) := by
  obtain ⟨b, hb⟩ := Option.isSome_iff_exists.1 hag
  cases b with
  | true =>
    refine ⟨.agg (cs.toArray.extract off (off + n)), fun w => by simp [part, run_isAgg w hb, run_sizeOf w hs], Or.inl ⟨hb, ?_⟩⟩
    congr 1
    apply Array.ext'
    simp
  | false =>
    have hn := h1 hb
    subst hn
    have hlt : off < cs.length := by omega
    refine ⟨cs[off], fun w => by simp [part, run_isAgg w hb, hlt], Or.inr ⟨hb, ?_⟩⟩
    rw [List.drop_eq_getElem_cons hlt]; rfl

theorem eq_leaf0 {ρ : Env} {xs ys : List AV} {r : Bool} {x y : Value} (h : eqCells [0] xs ys = some r) (rx : RelL ρ xs [x]) (ry : RelL ρ ys [y]) : ∃ a b, x = .bool a ∧ y = .bool b ∧ r = (a == b) := by
  unfold eqCells at h
  split at h
  · simp at *
  · rename_i k' a l b m e1
    injection e1 with _ e2; subst e2
    split at h
    · rename_i q hq
      simp at h; subst h
      have := eqCells_len hq
      simp only [List.length_nil, List.length_eq_zero_iff] at this
      obtain ⟨rfl, rfl⟩ := this
      simp [eqCells] at hq; subst hq
      simp only [RelL, Rel, List.cons.injEq] at rx ry
      obtain ⟨_, _, ⟨rfl, _⟩, rfl, _⟩ := rx
      obtain ⟨_, _, ⟨rfl, _⟩, rfl, _⟩ := ry
      exact ⟨a, b, rfl, rfl, by simp⟩
    · cases h
  · simp at *
  · simp at *
  · cases h

theorem eq_leaf1 {ρ : Env} {xs ys : List AV} {r : Bool} {x y : Value} (h : eqCells [1] xs ys = some r) (rx : RelL ρ xs [x]) (ry : RelL ρ ys [y]) : ∃ k a b, x = .int k a ∧ y = .int k b ∧ r = (a == b) := by
  unfold eqCells at h
  split at h
  · simp at *
  · simp at *
  · rename_i k1 k' a l k2 b m e1
    injection e1 with _ e2; subst e2
    split at h
    · rename_i hk
      subst hk
      split at h
      · rename_i q hq
        simp at h; subst h
        have := eqCells_len hq
        simp only [List.length_nil, List.length_eq_zero_iff] at this
        obtain ⟨rfl, rfl⟩ := this
        simp [eqCells] at hq; subst hq
        simp only [RelL, Rel, List.cons.injEq] at rx ry
        obtain ⟨_, _, ⟨rfl, _⟩, rfl, _⟩ := rx
        obtain ⟨_, _, ⟨rfl, _⟩, rfl, _⟩ := ry
        exact ⟨_, a, b, rfl, rfl, by simp; rfl⟩
      · cases h
    · cases h
  · simp at *
  · cases h

theorem eq_leaf2 {ρ : Env} {xs ys : List AV} {r : Bool} {x y : Value} (h : eqCells [2] xs ys = some r) (rx : RelL ρ xs [x]) (ry : RelL ρ ys [y]) : ∃ a b, x = .string a ∧ y = .string b ∧ r = (a.toList == b.toList) := by
  unfold eqCells at h
  split at h
  · simp at *
  · simp at *
  · simp at *
  · rename_i k' a l b m e1
    injection e1 with _ e2; subst e2
    split at h
    · rename_i q hq
      simp at h; subst h
      have := eqCells_len hq
      simp only [List.length_nil, List.length_eq_zero_iff] at this
      obtain ⟨rfl, rfl⟩ := this
      simp [eqCells] at hq; subst hq
      simp only [RelL, Rel, List.cons.injEq] at rx ry
      obtain ⟨_, _, ⟨rfl, _⟩, ⟨s, rfl, hs⟩, _⟩ := rx
      obtain ⟨_, _, ⟨rfl, _⟩, ⟨u, rfl, hu⟩, _⟩ := ry
      exact ⟨s, u, rfl, rfl, by rw [str_beq hs hu]; simp⟩
    · cases h
  · cases h

theorem agOf_one {P : Program} {t : TypeId} {d : Nat} {ks : List Nat} (h : eqT P d t = some ks) : (agOf P t).isSome = true ∧ (agOf P t = some false → ks.length = 1) := by
  cases d with
  | zero => simp [eqT] at h
  | succ d =>
    simp only [eqT] at h
    unfold agOf
    split at h <;> (try cases h) <;> rename_i hu <;> rw [hu] <;> simp
    all_goals (simp at h; subst h; rfl)

/-- The fields of a struct, one after another. -/
theorem eqFs_sound {P : Program} {ρ : Env} {d D : Nat} (hD : d ≤ D) (ih : ∀ (t : TypeId) (ks : List Nat), eqT P d t = some ks → ∀ (x y : Value) (cx cy : List Value) (xs ys : List AV) (r : Bool) (w : World),
      CellsOf P t x cx → CellsOf P t y cy → RelL ρ xs cx → RelL ρ ys cy → eqCells ks xs ys = some r → (Op.equalIn D t x y).run P w = .ok r w)
    (cx cy : List Value) (xs ys : List AV) (rx : RelL ρ xs cx) (ry : RelL ρ ys cy) :
    ∀ (fs : List Field) (off : Nat) (ks : List Nat), eqFs P (eqT P d) fs off = some ks → ∀ (r : Bool) (w : World), eqCells ks (xs.drop off) (ys.drop off) = some r → (Op.eqFields D cx.toArray cy.toArray fs).run P w = .ok r w
  | [], off, ks, h, r, w, he => by
    simp [eqFs] at h; subst h
    have : r = true := by
      unfold eqCells at he
      split at he <;> simp at *
      first | exact he | exact he.symm
    subst this
    simp [Op.eqFields]
  | f :: fs, off, ks, h, r, w, he => by
    simp only [eqFs] at h
    split at h
    · cases h
    · rename_i hname
      split at h
      · rename_i hoff
        split at h
        · rename_i k1 hk1
          split at h
          · rename_i hsz0
            obtain ⟨hsz, hpos⟩ := hsz0
            split at h
            · rename_i r1 hr1
              simp at h; subst h
              obtain ⟨b1, b2, e1, e2, rfl⟩ := eqCells_split _ _ _ _ he
              have l1 := eqCells_len e1
              have hlx : off + k1.length ≤ xs.length := by
                have := l1.1
                simp at this
                omega
              have hly : off + k1.length ≤ ys.length := by
                have := l1.2
                simp at this
                omega
              have q := agOf_one hk1
              obtain ⟨vx, hvx, cvx⟩ := run_part (cs := cx) (off := off) q.1 hsz (by rw [← rx.length]; exact hlx) q.2
              obtain ⟨vy, hvy, cvy⟩ := run_part (cs := cy) (off := off) q.1 hsz (by rw [← ry.length]; exact hly) q.2
              have := ih f.type k1 hk1 vx vy _ _ _ _ b1 w cvx cvy ((rx.drop off).take _) ((ry.drop off).take _) e1
              rw [Op.eqFields, if_pos hname]
              simp only [hoff, Sem.run_bind, hvx, Result.andThen_ok, hvy, this]
              cases b1 with
              | false => simp
              | true =>
                have e2' : eqCells r1 (xs.drop (off + k1.length)) (ys.drop (off + k1.length)) = some b2 := by
                  rw [List.drop_drop, List.drop_drop] at e2; exact e2
                simp [eqFs_sound hD ih cx cy xs ys rx ry fs (off + k1.length) r1 hr1 b2 w e2']
            · cases h
          · cases h
        · cases h
      · cases h

theorem reps_split (ks : List Nat) (n : Nat) : reps ks (n + 1) = ks ++ reps ks n := rfl

/-- The elements of an array, one after another. -/
theorem eqArr_sound {P : Program} {ρ : Env} {D : Nat} {e : TypeId} {ks : List Nat} (hk : (agOf P e).isSome = true ∧ (agOf P e = some false → ks.length = 1)) (hsz : szOf P e = some ks.length) (hpos : 0 < ks.length)
    (ih : ∀ (x y : Value) (cx cy : List Value) (xs ys : List AV) (r : Bool) (w : World),
      CellsOf P e x cx → CellsOf P e y cy → RelL ρ xs cx → RelL ρ ys cy → eqCells ks xs ys = some r → (Op.equalIn D e x y).run P w = .ok r w)
    (cx cy : List Value) (xs ys : List AV) (rx : RelL ρ xs cx) (ry : RelL ρ ys cy) (w : World) :
    ∀ (n i : Nat) (r : Bool), eqCells (reps ks n) (xs.drop (i * ks.length)) (ys.drop (i * ks.length)) = some r →
      (forIn (m := Sem) (List.range' i n) ((none, ()) : Option Bool × Unit) fun i _ => do
          let u ← part e cx.toArray (i * ks.length)
          let v ← part e cy.toArray (i * ks.length)
          let b ← Op.equalIn D e u v
          if b = false then pure (.done (some false, ())) else pure (.yield (none, ()))).run P w =
        .ok (if r then none else some false, ()) w
  | 0, i, r, he => by
    have : r = true := by
      unfold eqCells at he
      split at he <;> simp [reps] at *
      first | exact he | exact he.symm
    subst this
    simp
  | n + 1, i, r, he => by
    rw [reps_split] at he
    obtain ⟨b1, b2, e1, e2, rfl⟩ := eqCells_split _ _ _ _ he
    have l1 := eqCells_len e1
    have hlx : i * ks.length + ks.length ≤ xs.length := by
      have := l1.1
      simp at this
      omega
    have hly : i * ks.length + ks.length ≤ ys.length := by
      have := l1.2
      simp at this
      omega
    obtain ⟨vx, hvx, cvx⟩ := run_part (cs := cx) (off := i * ks.length) hk.1 hsz (by rw [← rx.length]; exact hlx) hk.2
    obtain ⟨vy, hvy, cvy⟩ := run_part (cs := cy) (off := i * ks.length) hk.1 hsz (by rw [← ry.length]; exact hly) hk.2
    have := ih vx vy _ _ _ _ b1 w cvx cvy ((rx.drop _).take _) ((ry.drop _).take _) e1
    rw [List.range'_succ, List.forIn_cons]
    simp only [Sem.run_bind, hvx, Result.andThen_ok, hvy, this]
    cases b1 with
    | false => simp
    | true =>
      have e2' : eqCells (reps ks n) (xs.drop ((i + 1) * ks.length)) (ys.drop ((i + 1) * ks.length)) = some b2 := by
        rw [List.drop_drop, List.drop_drop] at e2
        rw [Nat.add_mul, Nat.one_mul]; exact e2
      have ih2 := eqArr_sound hk hsz hpos ih cx cy xs ys rx ry w n (i + 1) b2 e2'
      simp only [Bool.true_eq_false, if_false, Sem.run_pure, Result.andThen_ok, Bool.true_and]
      exact ih2

theorem eqT_sound {P : Program} {ρ : Env} : ∀ (d : Nat) (t : TypeId) (ks : List Nat), eqT P d t = some ks → ∀ (D : Nat), d ≤ D → ∀ (x y : Value) (cx cy : List Value) (xs ys : List AV) (r : Bool) (w : World),
    CellsOf P t x cx → CellsOf P t y cy → RelL ρ xs cx → RelL ρ ys cy → eqCells ks xs ys = some r → (Op.equalIn D t x y).run P w = .ok r w
  | 0, t, ks, h, _, _, _, _, _, _, _, _, _, _, _, _, _, _, _ => by simp [eqT] at h
  | d + 1, t, ks, h, D, hD, x, y, cx, cy, xs, ys, r, w, hx, hy, rx, ry, he => by
    obtain ⟨D, rfl⟩ : ∃ m, D = m + 1 := ⟨D - 1, by omega⟩
    have hfalse : ∀ {dd}, P.underlying t = some dd → (match dd with | .struct _ => true | .array _ _ => true | _ => false) = false → (cx = [x] ∧ cy = [y]) := by
      intro dd hu hm
      have ha : agOf P t = some false := by unfold agOf; rw [hu]; simp only [Option.map_some]; exact congrArg some hm
      constructor
      · rcases hx with ⟨h1, _⟩ | ⟨_, h2⟩
        · rw [ha] at h1; cases h1
        · exact h2
      · rcases hy with ⟨h1, _⟩ | ⟨_, h2⟩
        · rw [ha] at h1; cases h1
        · exact h2
    have htrue : ∀ {dd}, P.underlying t = some dd → (match dd with | .struct _ => true | .array _ _ => true | _ => false) = true → (x = .agg cx.toArray ∧ y = .agg cy.toArray) := by
      intro dd hu hm
      have ha : agOf P t = some true := by unfold agOf; rw [hu]; simp only [Option.map_some]; exact congrArg some hm
      constructor
      · rcases hx with ⟨_, h2⟩ | ⟨h1, _⟩
        · exact h2
        · rw [ha] at h1; cases h1
      · rcases hy with ⟨_, h2⟩ | ⟨h1, _⟩
        · exact h2
        · rw [ha] at h1; cases h1
    simp only [eqT] at h
    split at h
    · rename_i hu
      obtain ⟨rfl, rfl⟩ := hfalse hu rfl
      simp at h; subst h
      obtain ⟨a, b, rfl, rfl, rfl⟩ := eq_leaf0 he rx ry
      simp [Op.equalIn, run_underlying hu]
    · rename_i k hu
      obtain ⟨rfl, rfl⟩ := hfalse hu rfl
      simp at h; subst h
      obtain ⟨k, a, b, rfl, rfl, rfl⟩ := eq_leaf1 he rx ry
      simp [Op.equalIn, run_underlying hu]
    · rename_i hu
      obtain ⟨rfl, rfl⟩ := hfalse hu rfl
      simp at h; subst h
      obtain ⟨a, b, rfl, rfl, rfl⟩ := eq_leaf2 he rx ry
      exact run_equalIn_string w D t a b hu
    · rename_i fs hu
      obtain ⟨rfl, rfl⟩ := htrue hu rfl
      split at h
      · cases h
      · rename_i hst
        have hf : P.fieldsOf t = fs := by unfold Program.fieldsOf; rw [hu]
        rw [run_equalIn_struct w D t _ _ (by rw [hf]; exact hu) (by simpa using hst), hf]
        exact eqFs_sound (d := d) (D := D) (by omega) (fun t ks h x y cx cy xs ys r w => eqT_sound d t ks h D (by omega) x y cx cy xs ys r w) cx cy xs ys rx ry fs.toList 0 ks h r w (by simpa using he)
    · rename_i len e hu
      obtain ⟨rfl, rfl⟩ := htrue hu rfl
      split at h
      · rename_i ks' hk
        split at h
        · rename_i hsz0
          obtain ⟨hsz, hpos⟩ := hsz0
          simp at h; subst h
          have q := eqArr_sound (D := D) (agOf_one hk) hsz hpos (fun x y cx cy xs ys r w => eqT_sound d e ks' hk D (by omega) x y cx cy xs ys r w) cx cy xs ys rx ry w len 0 r (by simpa using he)
          simp only [Op.equalIn, Sem.run_bind, run_underlying hu, Result.andThen_ok, run_sizeOf w hsz]
          simp only [Std.Legacy.Range.forIn_eq_forIn_range', Std.Legacy.Range.size] at *
          simp [q]
          cases r <;> simp
        · cases h
      · cases h
    · cases h
end Go.Abs
