/- The abstract interpreter, part B: operations, code, the abstract heap; what it says of the world; loads, stores, new blocks. -/
import Derived.Test.YteofddgoedkhcaaGreatDoorAbsA
namespace Go.Abs

/-- What a type's equality is, for what we have. -/
inductive EqK where
  | no
  | bool
  | slice
  | ptr
  | fn

/-- Operands. -/
inductive AX where
  | t (p : Pos)
  | c (v : AV)

/-- Operations, their types resolved. -/
inductive AOp where
  | mov (x : AX)
  | pick (c a b : AX)
  | new (z : List AV)
  | box (x : AX)
  | build (z : List AV) (parts : List (Nat × Nat × AX))
  | mksl (z : List AV) (len es : Nat) (parts : List (Nat × Nat × AX))
  | load (ag : Bool) (n : Nat) (a : AX)
  | store (n : Nat) (a x : AX)
  | nilchk (x : AX)
  | bin (op : BinOp) (ek : EqK) (ks : List Nat) (x y : AX)
  | un (op : UnOp) (x : AX)
  | cvi (k : IntKind) (x : AX)
  | cvs (x : AX)
  | s2b (x : AX)
  | b2s (x : AX)
  | mkif (t : TypeId) (x : AX)
  | mkfn (f : Fn) (fs cs : List AX)
  | slS (size : Nat) (x : AX) (lo hi : Option AX)
  | slStr (x : AX) (lo hi : Option AX)
  | slA (len size : Nat) (x : AX) (lo hi : Option AX)
  | fadr (off : Nat) (x : AX)
  | fld (ag : Bool) (off n : Nat) (x : AX)
  | ixS (size : Nat) (x ix : AX)
  | ixA (len size : Nat) (x ix : AX)
  | ixv (ag : Bool) (len n : Nat) (x ix : AX)
  | ixstr (x ix : AX)
  | extr (i : Nat) (x : AX)
  | call (g : AX) (args : List AX)
  | len (k : Nat) (x : AX)
  | cap (x : AX)
  | app (size bytes : Nat) (s x : AX)
  | copy (size : Nat) (str : Bool) (d s : AX)
  | mksz (size bytes : Nat) (z : List AV) (l c : AX)
  | bad

/-- An operation in its place: where its value goes; under which test it is carried out. -/
structure AOper where
  dst : Option Pos
  guard : Option (Pos × Bool)
  op : AOp

/-- Code. 'reg': in the order of the text. 'drw': the order is open: the operations in a chosen order; of each its sort (0: touches no memory, 1: reads, 2: a new block, 3: all else), how many of the states before must be looked at, too. -/
inductive AC where
  | skip
  | reg (ops : List AOper)
  | drw (ops : List (Nat × Nat × AOper))
  | seq (a b : AC)
  | cond (x : AX) (a b : AC)
  | block (id : Nat) (a : AC)
  | loop (a : AC)
  | rng (f : AX) (params : List Pos) (asg body : AC)
  | exit (id : Nat)
  | ret
  | bad

/-- A block: cells (of the call's own, or for reading alone); a range over a function: whether it is ready, the jump that is pending (some none: a return), the temporaries at its head, its code; the block of the deferred calls of such a range. -/
inductive Blk where
  | cells (ro : Bool) (l : List AV)
  | loop (ready : Bool) (pend : Option (Option Nat)) (T : PT AV) (params : List Pos) (asg body : AC)
  | dfr

def Blk.ro : Blk → Bool
  | .cells b _ => b
  | _ => false

abbrev AHeap := PT Blk

def takeN : Nat → List AV → Option (List AV)
  | 0, _ => some []
  | _ + 1, [] => none
  | n + 1, a :: l => match takeN n l with
    | some r => some (a :: r)
    | none => none

def putL : Nat → List AV → List AV → Option (List AV)
  | 0, [], l => some l
  | 0, _ :: _, [] => none
  | 0, x :: xs, _ :: l => match putL 0 xs l with
    | some r => some (x :: r)
    | none => none
  | _ + 1, _, [] => none
  | n + 1, xs, a :: l => match putL n xs l with
    | some r => some (a :: r)
    | none => none

theorem takeN_spec : ∀ {n : Nat} {l r : List AV}, takeN n l = some r → r = l.take n ∧ r.length = n
  | 0, l, r, h => by simp [takeN] at h; subst h; simp
  | n + 1, [], r, h => by simp [takeN] at h
  | n + 1, a :: l, r, h => by
    simp only [takeN] at h
    split at h
    · rename_i q hq
      have := takeN_spec hq
      simp at h; subst h
      simp [this.1]
      have := this.2
      rw [(takeN_spec hq).1] at this
      simpa using this
    · cases h

theorem putL_spec : ∀ {n : Nat} {xs l r : List AV}, putL n xs l = some r →
    r.length = l.length ∧ n + xs.length ≤ l.length ∧ ∀ i, r[i]? = if n ≤ i ∧ i < n + xs.length then xs[i - n]? else l[i]?
  | 0, [], l, r, h => by simp [putL] at h; subst h; refine ⟨rfl, by simp, fun i => ?_⟩; rw [if_neg (by simp)]
  | 0, x :: xs, [], r, h => by simp [putL] at h
  | 0, x :: xs, a :: l, r, h => by
    simp only [putL] at h
    split at h
    · rename_i q hq
      have := putL_spec hq
      simp at h; subst h
      refine ⟨by simp [this.1], by have := this.2.1; simp at this ⊢; omega, ?_⟩
      intro i
      cases i with
      | zero => simp
      | succ i =>
        have := this.2.2 i
        simp at this ⊢
        rw [this]
    · cases h
  | n + 1, xs, [], r, h => by simp [putL] at h
  | n + 1, xs, a :: l, r, h => by
    simp only [putL] at h
    split at h
    · rename_i q hq
      have := putL_spec hq
      simp at h; subst h
      refine ⟨by simp [this.1], by have := this.2.1; simp; omega, ?_⟩
      intro i
      cases i with
      | zero => simp
      | succ i =>
        have := this.2.2 i
        simp at this ⊢
        rw [this]
        by_cases hi : n ≤ i ∧ i < n + xs.length
        · rw [if_pos hi, if_pos (by omega)]
        · rw [if_neg hi, if_neg (by omega)]
    · cases h

/-- What stays the same in a run: the first block of the call's own; what it is for abstract code to be made from the model's, in a frame of so many temporaries. -/
structure Base where
  n : Nat
  old : Array Obj
  cr : Nat → Code → AC → Prop

/-- The call's own blocks lie from B on; those for reading alone below. -/
structure Side (B : Base) (ro : Bool) (b : Nat) : Prop where
  own : ro = false → B.n ≤ b
  old : ro = true → b < B.n

def evT (T : PT AV) (p : Pos) : AV := match PT.get p T with
  | some v => v
  | none => .tup []

/-- The temporaries. -/
def RelA (ρ : Env) (T : PT AV) (tmps : Array Value) : Prop := ∀ t, Rel ρ (evT T (Pos.ofNat t)) (tmps.getD t undef)

theorem RelA.mono {ρ ρ' : Env} (h : ρ.le ρ') {T : PT AV} {tmps : Array Value} (r : RelA ρ T tmps) : RelA ρ' T tmps := fun t => (r t).mono h

def jmp : Option Nat → Code
  | none => .ret
  | some i => .exit i

def stOf : Bool → Option (Option Nat) → LoopState
  | true, _ => .ready
  | false, none => .busy
  | false, some _ => .done

structure LoopOK (B : Base) (ρ : Env) (r : Loop) (rdy : Bool) (pend : Option (Option Nat)) (T : PT AV) (ps : List Pos) (ag bd : AC) : Prop where
  state : r.state = stOf rdy pend
  pending : r.pending = pend.map jmp
  tmps : RelA ρ T r.tmps
  params : r.params.toList.map Pos.ofNat = ps
  inside : ∀ p ∈ r.params.toList, p < r.tmps.size
  assign : B.cr r.tmps.size r.assign ag
  body : B.cr r.tmps.size r.body bd

/-- What a block that is no cells is. -/
def ObjOK (B : Base) (ρ : Env) : Blk → Obj → Prop
  | .cells _ _, _ => True
  | .loop rdy pend T ps ag bd, o => ∃ r, o = .loop r ∧ LoopOK B ρ r rdy pend T ps ag bd
  | .dfr, o => o = .deferred (some [])

theorem ObjOK.mono {B : Base} {ρ ρ' : Env} (h : ρ.le ρ') {k : Blk} {o : Obj} (r : ObjOK B ρ k o) : ObjOK B ρ' k o := by
  cases k with
  | cells ro l => trivial
  | loop rdy pend T ps ag bd =>
    obtain ⟨r, e, q⟩ := r
    exact ⟨r, e, ⟨q.state, q.pending, q.tmps.mono h, q.params, q.inside, q.assign, q.body⟩⟩
  | dfr => exact r

def Blk.isCells : Blk → Bool
  | .cells _ _ => true
  | _ => false

/-- What the abstract heap says of a world. B: the blocks below it were there before, and are never written. -/
structure Sim (B : Base) (ρ : Env) (H : AHeap) (w : World) : Prop where
  base : B.n ≤ w.heap.size
  cells : ∀ id ro l, PT.get id H = some (.cells ro l) → ∃ b o m, ρ id = some (b, o, m) ∧ b < w.heap.size ∧ Side B ro b ∧
    (∀ i v, l[i]? = some v → ∃ c, w.cell? ⟨b, o + i, none⟩ = some c ∧ Rel ρ v c) ∧ l.length ≤ m ∧
    (ro = false → ∀ i, i < m → (w.cell? ⟨b, o + i, none⟩).isSome = true ∧ w.frozen? ⟨b, o + i, none⟩ = false)
  objs : ∀ id k, PT.get id H = some k → k.isCells = false → ∃ b m o, ρ id = some (b, 0, m) ∧ B.n ≤ b ∧ w.heap[b]? = some o ∧ ObjOK B ρ k o
  inj : ∀ i j x y b o p, PT.get i H = some x → PT.get j H = some y → i ≠ j → ρ i = some (b, o) → ρ j = some (b, p) → False
  low : ∀ b, b < B.n → w.heap[b]? = B.old[b]?

/-- The blocks that may be written. -/
def Own (ρ : Env) (H : AHeap) (b : Nat) : Prop := ∃ id k o, PT.get id H = some k ∧ k.ro = false ∧ ρ id = some (b, o)

/-- What a step does. -/
structure Step (ρ : Env) (H : AHeap) (nx : Pos) (w : World) (ρ' : Env) (H' : AHeap) (nx' : Pos) (w' : World) : Prop where
  ext : ρ.le ρ'
  fresh : ∀ id, ρ id = none → ρ' id ≠ none → nx.toNat ≤ id.toNat ∧ id.toNat < nx'.toNat
  size : w.heap.size ≤ w'.heap.size
  os : w'.os = w.os
  tape : w'.tape = w.tape
  output : w'.output = w.output
  frame : ∀ b, b < w.heap.size → ¬ Own ρ H b → w'.heap[b]? = w.heap[b]?
  orig : ∀ b, Own ρ' H' b → b < w.heap.size → Own ρ H b
  dom : ∀ id k, PT.get id H' = some k → (∃ k0, PT.get id H = some k0) ∨ (nx.toNat ≤ id.toNat ∧ id.toNat < nx'.toNat)

theorem Step.refl (ρ : Env) (H : AHeap) (nx : Pos) (w : World) : Step ρ H nx w ρ H nx w :=
  ⟨Env.le_refl _, fun _ h k => absurd h k, Nat.le_refl _, rfl, rfl, rfl, fun _ _ _ => rfl, fun _ h _ => h, fun _ _ h => .inl ⟨_, h⟩⟩

theorem Step.trans {ρ ρ1 ρ2 : Env} {H H1 H2 : AHeap} {nx nx1 nx2 : Pos} {w w1 w2 : World} (h : Step ρ H nx w ρ1 H1 nx1 w1) (k : Step ρ1 H1 nx1 w1 ρ2 H2 nx2 w2)
    (l1 : nx.toNat ≤ nx1.toNat) (l2 : nx1.toNat ≤ nx2.toNat) : Step ρ H nx w ρ2 H2 nx2 w2 where
  ext := Env.le_trans h.ext k.ext
  fresh := fun id e e2 => by
    by_cases e1 : ρ1 id = none
    · have := k.fresh id e1 e2; omega
    · have := h.fresh id e e1; omega
  size := Nat.le_trans h.size k.size
  os := k.os.trans h.os
  tape := k.tape.trans h.tape
  output := k.output.trans h.output
  frame := fun b hb ho => by
    rw [k.frame b (Nat.lt_of_lt_of_le hb h.size) (fun o => ho (h.orig b o hb))]
    exact h.frame b hb ho
  orig := fun b o hb => h.orig b (k.orig b o (Nat.lt_of_lt_of_le hb h.size)) hb
  dom := fun id b e => by
    rcases k.dom id b e with ⟨k0, e1⟩ | q
    · rcases h.dom id k0 e1 with q | q
      · exact .inl q
      · exact .inr ⟨q.1, by omega⟩
    · exact .inr ⟨by omega, q.2⟩

/-- None of the names from nx to nx' is in use. -/
def Fresh (ρ : Env) (nx nx' : Pos) : Prop := ∀ id, nx.toNat ≤ id.toNat → id.toNat < nx'.toNat → ρ id = none

theorem Fresh.fst {ρ : Env} {nx nx1 nx2 : Pos} (h : Fresh ρ nx nx2) (l : nx1.toNat ≤ nx2.toNat) : Fresh ρ nx nx1 := fun id a b => h id a (by omega)

theorem Fresh.snd {ρ ρ1 : Env} {H H1 : AHeap} {nx nx1 nx2 : Pos} {w w1 : World} (h : Fresh ρ nx nx2) (s : Step ρ H nx w ρ1 H1 nx1 w1) (l : nx.toNat ≤ nx1.toNat) : Fresh ρ1 nx1 nx2 := fun id a b => by
  have e := h id (by omega) b
  by_cases e1 : ρ1 id = none
  · exact e1
  · have := s.fresh id e e1; omega
end Go.Abs
