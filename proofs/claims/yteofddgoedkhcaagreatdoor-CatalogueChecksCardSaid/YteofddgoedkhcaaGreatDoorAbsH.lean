/- The abstract interpreter, part H: what an operation is made from; the operations that touch no memory. -/
import Derived.Test.YteofddgoedkhcaaGreatDoorAbsG
namespace Go.Abs

/-! ### Making -/
def cbuild (P : Program) (gs : List Nat) (t : TypeId) (parts : List (Nat × Operand)) : Option AOp :=
  match P.underlying t, zeroOf P t with
  | some (.struct fs), some z =>
    match fs.toList.mapM fun f => (szOf P f.type).map fun n => (f.offset, n) with
    | some places => (cparts gs (fun i => places.toArray[i]?) parts).map fun ps => .build z ps
    | none => none
  | some (.array _ el), some z =>
    match szOf P el with
    | some size => (cparts gs (fun i => some (i * size, size)) parts).map fun ps => .build z ps
    | none => none
  | _, _ => none

def cmksl (P : Program) (gs : List Nat) (t : TypeId) (len : Nat) (parts : List (Nat × Operand)) : Option AOp :=
  match P.underlying t with
  | some (.slice el) =>
    match szOf P el, (P.info? el).bind (·.zero) with
    | some size, some zv =>
      if len * size ≤ 2 ^ 24 ∧ 0 < len * size then
        match ofVals (((Array.range (len * size)).map (zv.cells[· % zv.cells.size]!)).toList), cparts gs (fun i => some (i * size, size)) parts with
        | some z, some ps => some (.mksl z len size ps)
        | _, _ => none
      else none
    | _, _ => none
  | _ => none

def isU8 (P : Program) (t : TypeId) : Bool := match P.underlying t with
  | some (.int .u8) => true
  | _ => false

def cconv (P : Program) (gs : List Nat) (src dst : TypeId) (x : Operand) : Option AOp :=
  match P.underlying src, P.underlying dst with
  | some _, some (.int k) => (cox gs x).map (.cvi k)
  | some .string, some .string => (cox gs x).map .cvs
  | some .string, some (.slice el) => if isU8 P el then (cox gs x).map .s2b else none
  | some (.slice el), some .string => if isU8 P el then (cox gs x).map .b2s else none
  | _, _ => none

def cslice (P : Program) (gs : List Nat) (t : TypeId) (x : Operand) (lo hi mx : Option Operand) : Option AOp :=
  match cox gs x, coxo gs lo, coxo gs hi, mx with
  | some a, some l, some h, none =>
    match P.underlying t with
    | some (.array n el) => (szOf P el).map fun s => .slA n s a l h
    | some .string => some (.slStr a l h)
    | some (.slice el) => (szOf P el).map fun s => .slS s a l h
    | _ => none
  | _, _, _, _ => none

def cfield (P : Program) (s : TypeId) (f : Nat) : Option (Field × Nat) :=
  match P.underlying s with
  | some (.struct fs) => match fs[f]? with
    | some fl => match szOf P fl.type with
      | some n => if 0 < n then some (fl, n) else none
      | none => none
    | none => none
  | _ => none

def cixaddr (P : Program) (gs : List Nat) (t : TypeId) (x ix : Operand) : Option AOp :=
  match P.underlying t with
  | some (.slice el) => match szOf P el with
    | some s => m2 (.ixS s) (cox gs x) (cox gs ix)
    | none => none
  | some (.array n el) => match szOf P el with
    | some s => m2 (.ixA n s) (cox gs x) (cox gs ix)
    | none => none
  | _ => none

def cindex (P : Program) (gs : List Nat) (t : TypeId) (x ix : Operand) : Option AOp :=
  match P.underlying t with
  | some .string => m2 .ixstr (cox gs x) (cox gs ix)
  | some (.array n el) => match szOf P el, agOf P el with
    | some s, some ag => m2 (.ixv ag n s) (cox gs x) (cox gs ix)
    | _, _ => none
  | _ => none

def ccall (P : Program) (gs : List Nat) (c : Call) : Option AOp :=
  match c.callee, c.args.toList, c.argTypes.toList with
  | .value f, xs, _ => m2 .call (cox gs f) (coxs gs xs)
  | .builtin .len, [x], [t] => match P.underlying t with
    | some (.slice _) => (cox gs x).map (.len 1)
    | some .string => (cox gs x).map (.len 2)
    | _ => none
  | .builtin .cap, [x], [t] => match P.underlying t with
    | some (.slice _) => (cox gs x).map .cap
    | _ => none
  | .builtin .append, [s, x], [t, u] => match P.underlying t, P.underlying u with
    | some (.slice el), some (.slice _) => match szOf P el, (P.info? el).map (·.bytes), zeroOf P el with
      | some n, some b, some z => if z.length = n ∧ 0 < n then m2 (.app n b) (cox gs s) (cox gs x) else none
      | _, _, _ => none
    | _, _ => none
  | _, _, _ => none

def cop (P : Program) (gs : List Nat) (o : Oper) : Option AOp :=
  match o.op with
  | .move x => (cox gs x).map .mov
  | .assign x => (cox gs x).map .mov
  | .pick c a b => m3 .pick (cox gs c) (cox gs a) (cox gs b)
  | .alloc t => (zeroOf P t).map .new
  | .box _ x => (cox gs x).map .box
  | .build t ps => cbuild P gs t ps.toList
  | .buildSlice t len ps => cmksl P gs t len ps.toList
  | .load t a => match agOf P t, szOf P t, cox gs a with
    | some ag, some n, some x => some (.load ag n x)
    | _, _, _ => none
  | .store t a x => match szOf P t with
    | some n => m2 (.store n) (cox gs a) (cox gs x)
    | none => none
  | .nilCheck x => (cox gs x).map .nilchk
  | .binOp op t x y _ => m2 (.bin op (eqkOf P t) (eqsOf P t)) (cox gs x) (cox gs y)
  | .unOp op _ x => (cox gs x).map (.un op)
  | .convert s d x => cconv P gs s d x
  | .makeInterface t x => if P.concrete t then (cox gs x).map (.mkif t) else none
  | .makeFunc f fs cs => m2 (.mkfn f) (coxs gs fs.toList) (coxs gs cs.toList)
  | .slice t x lo hi mx => cslice P gs t x lo hi mx
  | .fieldAddr s x f => match cfield P s f with
    | some (fl, _) => (cox gs x).map (.fadr fl.offset)
    | none => none
  | .field s x f => match cfield P s f with
    | some (fl, n) => match agOf P fl.type with
      | some ag => (cox gs x).map (.fld ag fl.offset n)
      | none => none
    | none => none
  | .indexAddr t x ix => cixaddr P gs t x ix
  | .index t x ix => cindex P gs t x ix
  | .extract x i => (cox gs x).map (.extr i)
  | .makeSlice t l c => match P.underlying t with
    | some (.slice el) => match szOf P el, (P.info? el).map (·.bytes), zeroOf P el with
      | some n, some b, some z => if z.length = n ∧ 0 < n then m2 (.mksz n b z) (cox gs l) (cox gs c) else none
      | _, _, _ => none
    | _ => none
  | .call c => ccall P gs c
  | .panic _ => some .bad
  | _ => none

/-! ### What they give -/
def idx (x : AV) (n : Nat) (k : Nat → Option AV) : Option AV :=
  match x with
  | .int _ (.ofNat i) => if i < n then k i else none
  | _ => none

def bnd (x : Option AV) (d : Nat) : Option Nat :=
  match x with
  | none => some d
  | some (.int _ (.ofNat i)) => some i
  | _ => none

def slSA (es : Nat) (x : AV) (lo hi : Option AV) : Option AV :=
  match x with
  | .sl id off len ex cap es' =>
    if es' = es then
      match bnd lo 0, bnd hi len with
      | some l, some h =>
        if l ≤ h ∧ h ≤ cap then
          if l = 0 then frcN h fun h => some (.sl id off h ex cap es)
          else if l < cap then frcN (off + l * es) fun o => frcN (h - l) fun n => frcN (cap - l) fun c => some (.sl id o n ex c es)
          else if ex then some (.sl id off 0 true 0 es)
          else none
        else none
      | _, _ => none
    else none
  | .nilsl => match bnd lo 0, bnd hi 0 with
    | some 0, some 0 => some .nilsl
    | _, _ => none
  | _ => none

def slStrA (x : AV) (lo hi : Option AV) : Option AV :=
  match x with
  | .str s => match bnd lo 0, bnd hi s.length with
    | some l, some h => if l ≤ h ∧ h ≤ s.length then some (.str ((s.take h).drop l)) else none
    | _, _ => none
  | _ => none

def fldA (ag : Bool) (off n : Nat) (x : AV) : Option AV :=
  match x with
  | .agg l => match ag with
    | true => match takeN n (l.drop off) with
      | some r => some (.agg r)
      | none => none
    | false => nthL off l
  | _ => none

def nthN : Nat → List Nat → Option Nat
  | _, [] => none
  | 0, a :: _ => some a
  | n + 1, _ :: l => nthN n l

theorem nthN_eq : ∀ (n : Nat) (l : List Nat), nthN n l = l[n]?
  | _, [] => by simp [nthN]
  | 0, a :: l => by simp [nthN]
  | n + 1, a :: l => by simp [nthN, nthN_eq n l]

def lenN : List Nat → Nat
  | [] => 0
  | _ :: l => Nat.succ (lenN l)
theorem lenN_eq : ∀ l : List Nat, lenN l = l.length
  | [] => rfl
  | _ :: l => by simp [lenN, lenN_eq l]

def nilchkA (x : AV) : Option AV :=
  match x with
  | .ptr id off => some (.ptr id off)
  | .fn (.func f) fs cs => some (.fn (.func f) fs cs)
  | .yld id => some (.yld id)
  | .ifc t v => some (.ifc t v)
  | _ => none

def puA (e : AX → AV) (op : AOp) : Option AV :=
  match op with
  | .mov x => some (e x)
  | .pick c a b => match e c with
    | .bool true => some (e a)
    | .bool false => some (e b)
    | _ => none
  | .build z ps => match fillA e ps z with
    | some l => some (.agg l)
    | none => none
  | .nilchk x => nilchkA (e x)
  | .bin op ek ks x y => binA op ek ks (e x) (e y)
  | .un op x => unA op (e x)
  | .cvi k x => cvI k (e x)
  | .cvs x => cvS (e x)
  | .mkif t x => some (.ifc t (e x))
  | .mkfn f fs cs => some (.fn f (fs.map e) (cs.map e))
  | .slS s x lo hi => slSA s (e x) (lo.map e) (hi.map e)
  | .slStr x lo hi => slStrA (e x) (lo.map e) (hi.map e)
  | .fadr off x => match e x with
    | .ptr id o => frcN (o + off) fun o => some (.ptr id o)
    | _ => none
  | .fld ag off n x => fldA ag off n (e x)
  | .ixS s x ix => match e x with
    | .sl id off len _ _ es => if es = s then idx (e ix) len fun i => frcN (off + i * s) fun o => some (.ptr id o) else none
    | _ => none
  | .ixA n s x ix => match e x with
    | .ptr id o => idx (e ix) n fun i => frcN (o + i * s) fun o => some (.ptr id o)
    | _ => none
  | .ixv ag n s x ix => idx (e ix) n fun i => fldA ag (i * s) s (e x)
  | .ixstr x ix => match e x with
    | .str l => idx (e ix) l.length fun i => match nthN i l with
      | some b => some (.int .u8 (.ofNat b))
      | none => none
    | _ => none
  | .extr i x => match e x with
    | .tup l => nthL i l
    | _ => none
  | .len k x => match e x with
    | .sl _ _ len _ _ _ => if k = 1 then some (.int .i64 (.ofNat len)) else none
    | .nilsl => if k = 1 then some (.int .i64 (.ofNat 0)) else none
    | .str l => if k = 2 then some (.int .i64 (.ofNat (lenN l))) else none
    | _ => none
  | .cap x => match e x with
    | .sl _ _ _ true c _ => some (.int .i64 (.ofNat c))
    | .nilsl => some (.int .i64 (.ofNat 0))
    | _ => none
  | _ => none
end Go.Abs
