/- The abstract interpreter, part M: how code is made, and how it runs. -/
import Derived.Test.YtgcfdengoenboaaGreatDoorAbsL
namespace Go.Abs

/-- Equal values, where it can be seen. -/
def same1 : AV → AV → Bool
  | .bool a, .bool b => a == b
  | .int k a, .int k' b => if k = k' then decide (a = b) else false
  | .rng k a b, .rng k' c d => if k = k' then decide (a = c) && decide (b = d) else false
  | .str a, .str b => beqN a b
  | .nilp, .nilp => true
  | .nilsl, .nilsl => true
  | .nilmap, .nilmap => true
  | .nilfn, .nilfn => true
  | .nilifc, .nilifc => true
  | .ptr i a, .ptr j b => samePos i j && Nat.beq a b
  | .sl i a b c d e, .sl i' a' b' c' d' e' => samePos i i' && Nat.beq a a' && Nat.beq b b' && (c == c') && Nat.beq d d' && Nat.beq e e'
  | .fn (.func f) [] [], .fn (.func g) [] [] => Nat.beq f g
  | _, _ => false
where
  samePos (p q : Pos) : Bool := Nat.beq p.toNat q.toNat

def sameL : List AV → List AV → Bool
  | [], [] => true
  | a :: l, b :: m => same1 a b && sameL l m
  | _, _ => false

def same : AV → AV → Bool
  | .agg l, .agg m => sameL l m
  | a, b => same1 a b

/-! ### Running -/
def undefA : AV := .tup []

def ev (T : PT AV) : AX → AV
  | .t p => match PT.get p T with
    | some v => v
    | none => undefA
  | .c v => v

def putT (d : Option Pos) (v : AV) (T : PT AV) : PT AV := match d with
  | some p => PT.put p (some v) T
  | none => T

def wantA (T : PT AV) (g : Option (Pos × Bool)) : Option Bool := match g with
  | none => some true
  | some (p, want) => match PT.get p T with
    | some (.bool b) => some (b == want)
    | some (.tup []) => some false
    | none => some false
    | _ => none

/-- What a call of a function, of a yield, comes to. -/
abbrev CallR := Nat → List AV → AHeap → Pos → Option (AV × AHeap × Pos)
abbrev YieldR := Pos → List AV → AHeap → Pos → Option (AV × AHeap × Pos)

def opA (cf : CallR) (yf : YieldR) (e : AX → AV) (H : AHeap) (nx : Pos) (op : AOp) : Option (AV × AHeap × Pos) :=
  match op with
  | .call g args => match e g with
    | .fn (.func f) fs cs => cf f (fs ++ (args.map e ++ cs)) H nx
    | .yld id => yf id (args.map e) H nx
    | _ => none
  | .store n a x => match stA e H n a x with
    | some H' => some (undefA, H', nx)
    | none => none
  | .app n b s x => apA H nx n b (e s) (e x)
  | .ext q xs => extA q (xs.map e) H nx
  | .load ag n a => match ldA e H (.load ag n a) with
    | some v => some (v, H, nx)
    | none => none
  | .slA len s x lo hi => match ldA e H (.slA len s x lo hi) with
    | some v => some (v, H, nx)
    | none => none
  | .b2s x => match ldA e H (.b2s x) with
    | some v => some (v, H, nx)
    | none => none
  | .new z => some (resA nx none, PT.put nx (some (.cells false z)) H, nx.succ)
  | .box x => match alA e (.box x) with
    | some (l, r) => some (resA nx r, PT.put nx (some (.cells false l)) H, nx.succ)
    | none => none
  | .mksl z len es ps => match alA e (.mksl z len es ps) with
    | some (l, r) => some (resA nx r, PT.put nx (some (.cells false l)) H, nx.succ)
    | none => none
  | .s2b x => match alA e (.s2b x) with
    | some (l, r) => some (resA nx r, PT.put nx (some (.cells false l)) H, nx.succ)
    | none => none
  | op => match puA e op with
    | some v => some (v, H, nx)
    | none => none

/-- Operations in the order of the text. -/
def seqA (cf : CallR) (yf : YieldR) : List AOper → PT AV → AHeap → Pos → Option (PT AV × AHeap × Pos)
  | [], T, H, nx => some (T, H, nx)
  | o :: os, T, H, nx => match wantA T o.guard with
    | some true => match opA cf yf (ev T) H nx o.op with
      | some (v, H', nx') => seqA cf yf os (putT o.dst v T) H' nx'
      | none => none
    | some false => seqA cf yf os (putT o.dst undefA T) H nx
    | none => none

def lookBack (e : AX → AV) (op : AOp) (v : AV) : Nat → List AHeap → Bool
  | 0, _ => true
  | _ + 1, [] => false
  | k + 1, S :: Ss => match ldA e S op with
    | some u => match same v u with
      | true => lookBack e op v k Ss
      | false => false
    | none => false

/-- Operations whose order is open, in the order that was chosen. -/
def drwA (cf : CallR) (yf : YieldR) : List (Nat × Nat × AOper) → List AHeap → PT AV → AHeap → Pos → Option (PT AV × AHeap × Pos)
  | [], _, T, H, nx => some (T, H, nx)
  | (s, k, o) :: os, Ss, T, H, nx => match wantA T o.guard with
    | some true => match opA cf yf (ev T) H nx o.op with
      | some (v, H', nx') => match s with
        | 1 => match lookBack (ev T) o.op v k Ss with
          | true => drwA cf yf os Ss (putT o.dst v T) H' nx'
          | false => none
        | 3 => drwA cf yf os (H :: Ss) (putT o.dst v T) H' nx'
        | _ => drwA cf yf os Ss (putT o.dst v T) H' nx'
      | none => none
    | some false => match s with
      | 3 => drwA cf yf os (H :: Ss) (putT o.dst undefA T) H nx
      | _ => drwA cf yf os Ss (putT o.dst undefA T) H nx
    | none => none

/-- How code is left. -/
inductive AEx where
  | normal
  | exit (id : Nat)
  | ret

structure St where
  T : PT AV
  D : List Pos
  H : AHeap
  nx : Pos

/-- A function: how many parameters, its results, its body. -/
inductive ARes where
  | tmp (p : Pos)
  | cell (p : Pos) (ag : Bool) (n : Nat)

structure AFn where
  res : List ARes
  body : AC

def bindT : List AV → Nat → PT AV → PT AV
  | [], _, T => T
  | v :: vs, n, T => bindT vs (n + 1) (PT.put (Pos.ofNat n) (some v) T)

def resOf (T : PT AV) (H : AHeap) : List ARes → Option (List AV)
  | [] => some []
  | .tmp p :: rs => match resOf T H rs with
    | some l => some (ev T (.t p) :: l)
    | none => none
  | .cell p ag n :: rs => match ldA (ev T) H (.load ag n (.t p)), resOf T H rs with
    | some v, some l => some (v :: l)
    | _, _ => none

def tupOf : List AV → AV
  | [v] => v
  | l => .tup l

def unmark : List Pos → AHeap → Option AHeap
  | [], H => some H
  | id :: D, H => match PT.get id H with
    | some .dfr => unmark D (PT.put id none H)
    | _ => none

def endFn (fn : AFn) (s : St) : Option (AV × AHeap × Pos) :=
  match unmark s.D s.H with
  | some H' => match resOf s.T H' fn.res with
    | some l => some (tupOf l, H', s.nx)
    | none => none
  | none => none

def setPs : List Pos → List AV → PT AV → Option (PT AV)
  | [], [], T => some T
  | p :: ps, v :: vs, T => setPs ps vs (PT.put p (some v) T)
  | _, _, _ => none

section
variable (fns : Nat → Option AFn) (sum : Nat → List AV → AHeap → Option AV)

abbrev ExecR := AC → Option Pos → St → Option (AEx × St)

def callA (ex : ExecR) : CallR := fun f args H nx =>
  match sum f args H with
  | some v => some (v, H, nx)
  | none => match fns f with
    | some fn => match ex fn.body none ⟨bindT args 0 .lf, [], H, nx⟩ with
      | some (.normal, s) => endFn fn s
      | some (.ret, s) => endFn fn s
      | _ => none
    | none => none

def yieldA (ex : ExecR) : YieldR := fun id args H nx =>
  match PT.get id H with
  | some (.loop true none T ps asg body) => match setPs ps args T with
    | some T' => match ex asg (some id) ⟨T', [], H, nx⟩ with
      | some (.normal, s1) => match PT.get id s1.H with
        | some (.loop true none T2 ps2 asg2 body2) => match ex body (some id) ⟨s1.T, s1.D, PT.put id (some (.loop false none T2 ps2 asg2 body2)) s1.H, s1.nx⟩ with
          | some (x, s2) => match s2.D, PT.get id s2.H with
            | [], some (.loop false none T3 ps3 asg3 body3) => match x with
              | .normal => some (.bool true, PT.put id (some (.loop true none T3 ps3 asg3 body3)) s2.H, s2.nx)
              | .ret => some (.bool false, PT.put id (some (.loop false (some none) T3 ps3 asg3 body3)) s2.H, s2.nx)
              | .exit i => some (.bool false, PT.put id (some (.loop false (some (some i)) T3 ps3 asg3 body3)) s2.H, s2.nx)
            | _, _ => none
          | none => none
        | _ => none
      | _ => none
    | none => none
  | _ => none

def execF (ex : ExecR) : ExecR := fun c rd s =>
  match c with
  | .skip => some (.normal, s)
  | .reg ops => match seqA (callA fns sum ex) (yieldA ex) ops s.T s.H s.nx with
    | some (T, H, nx) => some (.normal, ⟨T, s.D, H, nx⟩)
    | none => none
  | .drw ops => match drwA (callA fns sum ex) (yieldA ex) ops [] s.T s.H s.nx with
    | some (T, H, nx) => some (.normal, ⟨T, s.D, H, nx⟩)
    | none => none
  | .seq a b => match ex a rd s with
    | some (.normal, s') => ex b rd s'
    | r => r
  | .cond x a b => match ev s.T x with
    | .bool true => ex a rd s
    | .bool false => ex b rd s
    | _ => none
  | .block id a => match ex a rd s with
    | some (.exit i, s') => if Nat.beq i id then some (.normal, s') else some (.exit i, s')
    | r => r
  | .loop a => match ex a rd s with
    | some (.normal, s') => ex (.loop a) rd s'
    | r => r
  | .rng f ps asg body => match rd with
    | some _ => none
    | none =>
      match ev s.T f with
      | .fn (.func g) fs cs =>
        match callA fns sum ex g (fs ++ (.yld s.nx.succ :: cs)) (PT.put s.nx.succ (some (.loop true none s.T ps asg body)) (PT.put s.nx (some .dfr) s.H)) s.nx.succ.succ with
        | some (_, H, nx) => match PT.get s.nx.succ H with
          | some (.loop true none _ _ _ _) => some (.normal, ⟨s.T, s.nx :: s.D, PT.put s.nx.succ none H, nx⟩)
          | some (.loop false (some none) _ _ _ _) => some (.ret, ⟨s.T, s.nx :: s.D, PT.put s.nx.succ none H, nx⟩)
          | some (.loop false (some (some i)) _ _ _ _) => some (.exit i, ⟨s.T, s.nx :: s.D, PT.put s.nx.succ none H, nx⟩)
          | _ => none
        | none => none
      | _ => none
  | .exit id => some (.exit id, s)
  | .ret => some (.ret, s)
  | .bad => none

def exec (n : Nat) : ExecR := Nat.rec (fun _ _ _ => none) (fun _ ih => execF fns sum ih) n

theorem exec_zero : exec fns sum 0 = fun _ _ _ => none := rfl
theorem exec_succ (n : Nat) : exec fns sum (n + 1) = execF fns sum (exec fns sum n) := rfl

/-- A call at the top. -/
def top (n : Nat) (f : Nat) (args : List AV) (H : AHeap) (nx : Pos) : Option (AV × AHeap × Pos) := callA fns sum (exec fns sum n) f args H nx
end

/-! ### Making code -/
section
variable (P : Program) (gs : List Nat)

def cguard (ops : Array Oper) (g : Option (Nat × Bool)) : Option (Option (Pos × Bool)) := match g with
  | none => some none
  | some (j, want) => match (ops[j]?).bind (·.dst) with
    | some d => some (some (Pos.ofNat d, want))
    | none => none

def cdst (N : Nat) (d : Option Tmp) : Option (Option Pos) := match d with
  | none => some none
  | some d => if d < N then some (some (Pos.ofNat d)) else none

def coper (N : Nat) (ops : Array Oper) (o : Oper) : Option AOper :=
  match cdst N o.dst, cguard ops o.guard, cop P gs o with
  | some d, some g, some op => some ⟨d, g, op⟩
  | _, _, _ => none

def copers (N : Nat) (ops : Array Oper) : List Oper → Option (List AOper)
  | [] => some []
  | o :: os => match coper P gs N ops o, copers N ops os with
    | some a, some l => some (a :: l)
    | _, _ => none
end

def XOp.sort (q : XOp) : Nat := match q with
  | .mksz _ _ _ => 2
  | .sl0 _ => 2
  | .ifnil _ => 0
  | _ => 3

/-- The sort of an operation. -/
def AOp.sort (o : AOp) : Nat := match o with
  | .load _ _ _ => 1
  | .slA _ _ _ _ _ => 1
  | .b2s _ => 1
  | .new _ => 2
  | .box _ => 2
  | .mksl _ _ _ _ => 2
  | .s2b _ => 2
  | .call _ _ => 3
  | .store _ _ _ => 3
  | .app _ _ _ _ => 3
  | .copy _ _ _ _ => 3
  | .ext q _ => q.sort
  | _ => 0

/-- Of each operation the set of those that surely come before it, as bits. -/
def edgeMask (ms : List Nat) (es : List Edge) : Nat :=
  es.foldl (fun s e => if Region.binds .any e && decide (e.on < ms.length) then s ||| 2 ^ e.on ||| ms.getD e.on 0 else s) 0

def masks : List Oper → List Nat → List Nat
  | [], ms => ms
  | o :: os, ms => masks os (ms ++ [edgeMask ms o.after.toList])

/-- The chosen order: whatever comes before the next operation of sort 3, then that. -/
def order (ms : List Nat) (sorts : List Nat) : List Nat :=
  let n := ms.length
  let es := (List.range n).filter fun i => sorts.getD i 0 == 3
  let go := es.foldl (fun (acc : List Nat) e =>
    let m := ms.getD e 0
    acc ++ ((List.range n).filter fun i => m.testBit i && !acc.contains i) ++ (if acc.contains e then [] else [e])) []
  go ++ (List.range n).filter fun i => !go.contains i

def AX.tm : AX → List Pos
  | .t p => [p]
  | .c _ => []

def otm : Option AX → List Pos
  | none => []
  | some x => x.tm

/-- The temporaries that an operation names. -/
def AOp.tms : AOp → List Pos
  | .mov x => x.tm
  | .pick c a b => c.tm ++ a.tm ++ b.tm
  | .new _ => []
  | .box x => x.tm
  | .build _ ps => ps.flatMap fun q => q.2.2.tm
  | .mksl _ _ _ ps => ps.flatMap fun q => q.2.2.tm
  | .load _ _ a => a.tm
  | .store _ a x => a.tm ++ x.tm
  | .nilchk x => x.tm
  | .bin _ _ _ x y => x.tm ++ y.tm
  | .un _ x => x.tm
  | .cvi _ x => x.tm
  | .cvs x => x.tm
  | .s2b x => x.tm
  | .b2s x => x.tm
  | .mkif _ x => x.tm
  | .mkfn _ fs cs => fs.flatMap AX.tm ++ cs.flatMap AX.tm
  | .slS _ x lo hi => x.tm ++ otm lo ++ otm hi
  | .slStr x lo hi => x.tm ++ otm lo ++ otm hi
  | .slA _ _ x lo hi => x.tm ++ otm lo ++ otm hi
  | .fadr _ x => x.tm
  | .fld _ _ _ x => x.tm
  | .ixS _ x i => x.tm ++ i.tm
  | .ixA _ _ x i => x.tm ++ i.tm
  | .ixv _ _ _ x i => x.tm ++ i.tm
  | .ixstr x i => x.tm ++ i.tm
  | .extr _ x => x.tm
  | .call g args => g.tm ++ args.flatMap AX.tm
  | .len _ x => x.tm
  | .cap x => x.tm
  | .app _ _ s x => s.tm ++ x.tm
  | .copy _ _ d x => d.tm ++ x.tm
  | .ext _ xs => xs.flatMap AX.tm
  | .bad => []

def AOper.tms (o : AOper) : List Pos := o.op.tms ++ (match o.guard with
    | some (p, _) => [p]
    | none => []) ++ o.dst.toList

/-- An operation in the chosen order: which it is, what surely comes before it (bits), its sort, how many states before it must be looked at, too. -/
structure Ent where
  i : Nat
  m : Nat
  s : Nat
  k : Nat
  o : AOper

/-- Does the one write what the other names? -/
def hits (d : Option Pos) (o : AOper) : Bool := match d with
  | none => false
  | some p => o.tms.any (same1.samePos p)

/-- May a stand before b for all orders? -/
def okPair (a b : Ent) : Bool :=
  let e := b.m.testBit a.i
  (if hits a.o.dst b.o then e else true) && (if hits b.o.dst a.o then e else true) && (if b.s = 3 then e else true) && !(a.m.testBit b.i) && !(Nat.beq a.i b.i)

def okAll : List Ent → List Ent → List Ent → Bool
  | [], _, _ => true
  | b :: rest, acc, acc3 => acc.all (fun a => okPair a b) && (if b.s = 1 then (acc3.drop b.k).all (fun a => b.m.testBit a.i) else true) &&
    okAll rest (b :: acc) (if b.s = 3 then b :: acc3 else acc3)

def edgesOK : List Oper → Nat → Bool
  | [], _ => true
  | o :: os, i => o.after.toList.all (fun e => !Region.binds .any e || decide (e.on < i)) && edgesOK os (i + 1)

/-- How many of the states before must be looked at. -/
def backs (ms sorts ord : List Nat) (i : Nat) : Nat :=
  let before := (ord.takeWhile (· != i)).filter fun j => sorts.getD j 0 == 3
  (before.reverse.takeWhile fun j => !(ms.getD i 0).testBit j).length

def ents (aos : List AOper) (ms sorts ord : List Nat) : List Nat → Option (List Ent)
  | [] => some []
  | i :: l => match aos[i]?, ents aos ms sorts ord l with
    | some a, some r => some (⟨i, ms.getD i 0, a.op.sort, (if a.op.sort = 1 then backs ms sorts ord i else 0), a⟩ :: r)
    | _, _ => none

def cdrw (P : Program) (gs : List Nat) (N : Nat) (ops : Array Oper) : Option AC :=
  match copers P gs N ops ops.toList with
  | some aos =>
    match ents aos (masks ops.toList []) (aos.map (·.op.sort)) (order (masks ops.toList []) (aos.map (·.op.sort))) (order (masks ops.toList []) (aos.map (·.op.sort))) with
    | some E => if okAll E [] [] && edgesOK ops.toList 0 && (List.range ops.size).all (fun i => E.any fun e => Nat.beq e.i i) then some (.drw (E.map fun e => (e.s, e.k, e.o))) else none
    | none => none
  | none => none

def cc (P : Program) (gs : List Nat) (N : Nat) : Code → Option AC
  | .skip => some .skip
  | .region _ ops draw => if draw then cdrw P gs N ops else (copers P gs N ops ops.toList).map .reg
  | .seq a b => match cc P gs N a, cc P gs N b with
    | some x, some y => some (.seq x y)
    | _, _ => none
  | .cond c a b => match cox gs c, cc P gs N a, cc P gs N b with
    | some t, some x, some y => some (.cond t x y)
    | _, _, _ => none
  | .block id a => (cc P gs N a).map (.block id)
  | .loop a => (cc P gs N a).map .loop
  | .rangeFunc f ps asg body => match cox gs f, cc P gs N asg, cc P gs N body with
    | some t, some x, some y => if ps.all (fun p => decide (p < N)) then some (.rng t (ps.toList.map Pos.ofNat) x y) else none
    | _, _, _ => none
  | .exit id => some (.exit id)
  | .ret => some .ret
  | .refuse _ => some .bad
  | _ => none

def cres (P : Program) : ResultVar → Option ARes
  | .tmp t => some (.tmp (Pos.ofNat t))
  | .cell a t => match agOf P t, szOf P t with
    | some ag, some n => some (.cell (Pos.ofNat a) ag n)
    | _, _ => none

def cfn (P : Program) (gs : List Nat) (fn : Func) : Option AFn :=
  match fn.body with
  | some c => match cc P gs fn.ntmps c, fn.results.toList.mapM (cres P) with
    | some b, some rs => if fn.name == "runtime.NumGoroutine" then none else some ⟨rs, b⟩
    | _, _ => none
  | none => none
end Go.Abs

namespace Go.Abs

abbrev D2 (α : Type) : Type := DD → DD → α
abbrev D3 (α : Type) : Type := DD → DD → DD → α
abbrev D4 (α : Type) : Type := DD → DD → DD → DD → α
abbrev D5 (α : Type) : Type := DD → DD → DD → DD → DD → α
abbrev D6 (α : Type) : Type := DD → DD → DD → DD → DD → DD → α
abbrev D7 (α : Type) : Type := DD → DD → DD → DD → DD → DD → DD → α
abbrev D8 (α : Type) : Type := DD → DD → DD → DD → DD → DD → DD → DD → α
noncomputable section
/-- The next name. -/
def sc_s_0 : DD → (Pos → Bool) → Bool := @DD.rec (fun _ => (Pos → Bool) → Bool) (fun q => q (.s .b .a .a)) (fun q => q (.s .c .a .a)) (fun q => q (.s .d .a .a)) (fun q => q (.m .a .a .a .a .a))
def sc_s_1 : D2 ((Pos → Bool) → Bool) := @DD.rec (fun _ => DD → (Pos → Bool) → Bool) (fun x0 q => q (.s x0 .b .a)) (fun x0 q => q (.s x0 .c .a)) (fun x0 q => q (.s x0 .d .a)) (fun x0 q => sc_s_0 x0  q)
def sc_s_2 : D3 ((Pos → Bool) → Bool) := @DD.rec (fun _ => D2 ((Pos → Bool) → Bool)) (fun x0 x1 q => q (.s x0 x1 .b)) (fun x0 x1 q => q (.s x0 x1 .c)) (fun x0 x1 q => q (.s x0 x1 .d)) (fun x0 x1 q => sc_s_1 x1 x0 q)
def sc_m_0 : DD → (Pos → Bool) → Bool := @DD.rec (fun _ => (Pos → Bool) → Bool) (fun q => q (.m .b .a .a .a .a)) (fun q => q (.m .c .a .a .a .a)) (fun q => q (.m .d .a .a .a .a)) (fun q => q (.l .a .a .a .a .a .a))
def sc_m_1 : D2 ((Pos → Bool) → Bool) := @DD.rec (fun _ => DD → (Pos → Bool) → Bool) (fun x0 q => q (.m x0 .b .a .a .a)) (fun x0 q => q (.m x0 .c .a .a .a)) (fun x0 q => q (.m x0 .d .a .a .a)) (fun x0 q => sc_m_0 x0  q)
def sc_m_2 : D3 ((Pos → Bool) → Bool) := @DD.rec (fun _ => D2 ((Pos → Bool) → Bool)) (fun x0 x1 q => q (.m x0 x1 .b .a .a)) (fun x0 x1 q => q (.m x0 x1 .c .a .a)) (fun x0 x1 q => q (.m x0 x1 .d .a .a)) (fun x0 x1 q => sc_m_1 x1 x0 q)
def sc_m_3 : D4 ((Pos → Bool) → Bool) := @DD.rec (fun _ => D3 ((Pos → Bool) → Bool)) (fun x0 x1 x2 q => q (.m x0 x1 x2 .b .a)) (fun x0 x1 x2 q => q (.m x0 x1 x2 .c .a)) (fun x0 x1 x2 q => q (.m x0 x1 x2 .d .a)) (fun x0 x1 x2 q => sc_m_2 x2 x0 x1 q)
def sc_m_4 : D5 ((Pos → Bool) → Bool) := @DD.rec (fun _ => D4 ((Pos → Bool) → Bool)) (fun x0 x1 x2 x3 q => q (.m x0 x1 x2 x3 .b)) (fun x0 x1 x2 x3 q => q (.m x0 x1 x2 x3 .c)) (fun x0 x1 x2 x3 q => q (.m x0 x1 x2 x3 .d)) (fun x0 x1 x2 x3 q => sc_m_3 x3 x0 x1 x2 q)
def sc_l_0 : DD → (Pos → Bool) → Bool := @DD.rec (fun _ => (Pos → Bool) → Bool) (fun q => q (.l .b .a .a .a .a .a)) (fun q => q (.l .c .a .a .a .a .a)) (fun q => q (.l .d .a .a .a .a .a)) (fun q => q (.t .a .a .a .a .a .a .a .a))
def sc_l_1 : D2 ((Pos → Bool) → Bool) := @DD.rec (fun _ => DD → (Pos → Bool) → Bool) (fun x0 q => q (.l x0 .b .a .a .a .a)) (fun x0 q => q (.l x0 .c .a .a .a .a)) (fun x0 q => q (.l x0 .d .a .a .a .a)) (fun x0 q => sc_l_0 x0  q)
def sc_l_2 : D3 ((Pos → Bool) → Bool) := @DD.rec (fun _ => D2 ((Pos → Bool) → Bool)) (fun x0 x1 q => q (.l x0 x1 .b .a .a .a)) (fun x0 x1 q => q (.l x0 x1 .c .a .a .a)) (fun x0 x1 q => q (.l x0 x1 .d .a .a .a)) (fun x0 x1 q => sc_l_1 x1 x0 q)
def sc_l_3 : D4 ((Pos → Bool) → Bool) := @DD.rec (fun _ => D3 ((Pos → Bool) → Bool)) (fun x0 x1 x2 q => q (.l x0 x1 x2 .b .a .a)) (fun x0 x1 x2 q => q (.l x0 x1 x2 .c .a .a)) (fun x0 x1 x2 q => q (.l x0 x1 x2 .d .a .a)) (fun x0 x1 x2 q => sc_l_2 x2 x0 x1 q)
def sc_l_4 : D5 ((Pos → Bool) → Bool) := @DD.rec (fun _ => D4 ((Pos → Bool) → Bool)) (fun x0 x1 x2 x3 q => q (.l x0 x1 x2 x3 .b .a)) (fun x0 x1 x2 x3 q => q (.l x0 x1 x2 x3 .c .a)) (fun x0 x1 x2 x3 q => q (.l x0 x1 x2 x3 .d .a)) (fun x0 x1 x2 x3 q => sc_l_3 x3 x0 x1 x2 q)
def sc_l_5 : D6 ((Pos → Bool) → Bool) := @DD.rec (fun _ => D5 ((Pos → Bool) → Bool)) (fun x0 x1 x2 x3 x4 q => q (.l x0 x1 x2 x3 x4 .b)) (fun x0 x1 x2 x3 x4 q => q (.l x0 x1 x2 x3 x4 .c)) (fun x0 x1 x2 x3 x4 q => q (.l x0 x1 x2 x3 x4 .d)) (fun x0 x1 x2 x3 x4 q => sc_l_4 x4 x0 x1 x2 x3 q)
def sc_t_0 : DD → (Pos → Bool) → Bool := @DD.rec (fun _ => (Pos → Bool) → Bool) (fun q => q (.t .b .a .a .a .a .a .a .a)) (fun q => q (.t .c .a .a .a .a .a .a .a)) (fun q => q (.t .d .a .a .a .a .a .a .a)) (fun q => q (.x 0))
def sc_t_1 : D2 ((Pos → Bool) → Bool) := @DD.rec (fun _ => DD → (Pos → Bool) → Bool) (fun x0 q => q (.t x0 .b .a .a .a .a .a .a)) (fun x0 q => q (.t x0 .c .a .a .a .a .a .a)) (fun x0 q => q (.t x0 .d .a .a .a .a .a .a)) (fun x0 q => sc_t_0 x0  q)
def sc_t_2 : D3 ((Pos → Bool) → Bool) := @DD.rec (fun _ => D2 ((Pos → Bool) → Bool)) (fun x0 x1 q => q (.t x0 x1 .b .a .a .a .a .a)) (fun x0 x1 q => q (.t x0 x1 .c .a .a .a .a .a)) (fun x0 x1 q => q (.t x0 x1 .d .a .a .a .a .a)) (fun x0 x1 q => sc_t_1 x1 x0 q)
def sc_t_3 : D4 ((Pos → Bool) → Bool) := @DD.rec (fun _ => D3 ((Pos → Bool) → Bool)) (fun x0 x1 x2 q => q (.t x0 x1 x2 .b .a .a .a .a)) (fun x0 x1 x2 q => q (.t x0 x1 x2 .c .a .a .a .a)) (fun x0 x1 x2 q => q (.t x0 x1 x2 .d .a .a .a .a)) (fun x0 x1 x2 q => sc_t_2 x2 x0 x1 q)
def sc_t_4 : D5 ((Pos → Bool) → Bool) := @DD.rec (fun _ => D4 ((Pos → Bool) → Bool)) (fun x0 x1 x2 x3 q => q (.t x0 x1 x2 x3 .b .a .a .a)) (fun x0 x1 x2 x3 q => q (.t x0 x1 x2 x3 .c .a .a .a)) (fun x0 x1 x2 x3 q => q (.t x0 x1 x2 x3 .d .a .a .a)) (fun x0 x1 x2 x3 q => sc_t_3 x3 x0 x1 x2 q)
def sc_t_5 : D6 ((Pos → Bool) → Bool) := @DD.rec (fun _ => D5 ((Pos → Bool) → Bool)) (fun x0 x1 x2 x3 x4 q => q (.t x0 x1 x2 x3 x4 .b .a .a)) (fun x0 x1 x2 x3 x4 q => q (.t x0 x1 x2 x3 x4 .c .a .a)) (fun x0 x1 x2 x3 x4 q => q (.t x0 x1 x2 x3 x4 .d .a .a)) (fun x0 x1 x2 x3 x4 q => sc_t_4 x4 x0 x1 x2 x3 q)
def sc_t_6 : D7 ((Pos → Bool) → Bool) := @DD.rec (fun _ => D6 ((Pos → Bool) → Bool)) (fun x0 x1 x2 x3 x4 x5 q => q (.t x0 x1 x2 x3 x4 x5 .b .a)) (fun x0 x1 x2 x3 x4 x5 q => q (.t x0 x1 x2 x3 x4 x5 .c .a)) (fun x0 x1 x2 x3 x4 x5 q => q (.t x0 x1 x2 x3 x4 x5 .d .a)) (fun x0 x1 x2 x3 x4 x5 q => sc_t_5 x5 x0 x1 x2 x3 x4 q)
def sc_t_7 : D8 ((Pos → Bool) → Bool) := @DD.rec (fun _ => D7 ((Pos → Bool) → Bool)) (fun x0 x1 x2 x3 x4 x5 x6 q => q (.t x0 x1 x2 x3 x4 x5 x6 .b)) (fun x0 x1 x2 x3 x4 x5 x6 q => q (.t x0 x1 x2 x3 x4 x5 x6 .c)) (fun x0 x1 x2 x3 x4 x5 x6 q => q (.t x0 x1 x2 x3 x4 x5 x6 .d)) (fun x0 x1 x2 x3 x4 x5 x6 q => sc_t_6 x6 x0 x1 x2 x3 x4 x5 q)
def succK : Pos → (Pos → Bool) → Bool :=
  @Pos.rec (fun _ => (Pos → Bool) → Bool)
    (fun x0 x1 x2 q => sc_s_2 x2 x0 x1 q)
    (fun x0 x1 x2 x3 x4 q => sc_m_4 x4 x0 x1 x2 x3 q)
    (fun x0 x1 x2 x3 x4 x5 q => sc_l_5 x5 x0 x1 x2 x3 x4 q)
    (fun x0 x1 x2 x3 x4 x5 x6 x7 q => sc_t_7 x7 x0 x1 x2 x3 x4 x5 x6 q)
    (fun n q => q (.x (n + 1)))
theorem nxD_map {α β : Type} (f : α → β) (x : DD) (c : α) (k : DD → α) : f (nxD x c k) = nxD x (f c) (fun y => f (k y)) := by cases x <;> rfl
theorem sc_s_0_eq (x0 : DD) (q : Pos → Bool) : sc_s_0 x0  q = nxD x0 (q (.m .a .a .a .a .a)) (fun y => q (.s y .a .a)) := by cases x0 <;> first | rfl | exact rfl
theorem sc_s_1_eq (x1 : DD) (x0 : DD) (q : Pos → Bool) : sc_s_1 x1 x0 q = nxD x1 (nxD x0 (q (.m .a .a .a .a .a)) (fun y => q (.s y .a .a))) (fun y => q (.s x0 y .a)) := by cases x1 <;> first | rfl | exact sc_s_0_eq _  _
theorem sc_s_2_eq (x2 : DD) (x0 x1 : DD) (q : Pos → Bool) : sc_s_2 x2 x0 x1 q = nxD x2 (nxD x1 (nxD x0 (q (.m .a .a .a .a .a)) (fun y => q (.s y .a .a))) (fun y => q (.s x0 y .a))) (fun y => q (.s x0 x1 y)) := by cases x2 <;> first | rfl | exact sc_s_1_eq _ _ _
theorem sc_m_0_eq (x0 : DD) (q : Pos → Bool) : sc_m_0 x0  q = nxD x0 (q (.l .a .a .a .a .a .a)) (fun y => q (.m y .a .a .a .a)) := by cases x0 <;> first | rfl | exact rfl
theorem sc_m_1_eq (x1 : DD) (x0 : DD) (q : Pos → Bool) : sc_m_1 x1 x0 q = nxD x1 (nxD x0 (q (.l .a .a .a .a .a .a)) (fun y => q (.m y .a .a .a .a))) (fun y => q (.m x0 y .a .a .a)) := by cases x1 <;> first | rfl | exact sc_m_0_eq _  _
theorem sc_m_2_eq (x2 : DD) (x0 x1 : DD) (q : Pos → Bool) : sc_m_2 x2 x0 x1 q = nxD x2 (nxD x1 (nxD x0 (q (.l .a .a .a .a .a .a)) (fun y => q (.m y .a .a .a .a))) (fun y => q (.m x0 y .a .a .a))) (fun y => q (.m x0 x1 y .a .a)) := by cases x2 <;> first | rfl | exact sc_m_1_eq _ _ _
theorem sc_m_3_eq (x3 : DD) (x0 x1 x2 : DD) (q : Pos → Bool) : sc_m_3 x3 x0 x1 x2 q = nxD x3 (nxD x2 (nxD x1 (nxD x0 (q (.l .a .a .a .a .a .a)) (fun y => q (.m y .a .a .a .a))) (fun y => q (.m x0 y .a .a .a))) (fun y => q (.m x0 x1 y .a .a))) (fun y => q (.m x0 x1 x2 y .a)) := by cases x3 <;> first | rfl | exact sc_m_2_eq _ _ _ _
theorem sc_m_4_eq (x4 : DD) (x0 x1 x2 x3 : DD) (q : Pos → Bool) : sc_m_4 x4 x0 x1 x2 x3 q = nxD x4 (nxD x3 (nxD x2 (nxD x1 (nxD x0 (q (.l .a .a .a .a .a .a)) (fun y => q (.m y .a .a .a .a))) (fun y => q (.m x0 y .a .a .a))) (fun y => q (.m x0 x1 y .a .a))) (fun y => q (.m x0 x1 x2 y .a))) (fun y => q (.m x0 x1 x2 x3 y)) := by cases x4 <;> first | rfl | exact sc_m_3_eq _ _ _ _ _
theorem sc_l_0_eq (x0 : DD) (q : Pos → Bool) : sc_l_0 x0  q = nxD x0 (q (.t .a .a .a .a .a .a .a .a)) (fun y => q (.l y .a .a .a .a .a)) := by cases x0 <;> first | rfl | exact rfl
theorem sc_l_1_eq (x1 : DD) (x0 : DD) (q : Pos → Bool) : sc_l_1 x1 x0 q = nxD x1 (nxD x0 (q (.t .a .a .a .a .a .a .a .a)) (fun y => q (.l y .a .a .a .a .a))) (fun y => q (.l x0 y .a .a .a .a)) := by cases x1 <;> first | rfl | exact sc_l_0_eq _  _
theorem sc_l_2_eq (x2 : DD) (x0 x1 : DD) (q : Pos → Bool) : sc_l_2 x2 x0 x1 q = nxD x2 (nxD x1 (nxD x0 (q (.t .a .a .a .a .a .a .a .a)) (fun y => q (.l y .a .a .a .a .a))) (fun y => q (.l x0 y .a .a .a .a))) (fun y => q (.l x0 x1 y .a .a .a)) := by cases x2 <;> first | rfl | exact sc_l_1_eq _ _ _
theorem sc_l_3_eq (x3 : DD) (x0 x1 x2 : DD) (q : Pos → Bool) : sc_l_3 x3 x0 x1 x2 q = nxD x3 (nxD x2 (nxD x1 (nxD x0 (q (.t .a .a .a .a .a .a .a .a)) (fun y => q (.l y .a .a .a .a .a))) (fun y => q (.l x0 y .a .a .a .a))) (fun y => q (.l x0 x1 y .a .a .a))) (fun y => q (.l x0 x1 x2 y .a .a)) := by cases x3 <;> first | rfl | exact sc_l_2_eq _ _ _ _
theorem sc_l_4_eq (x4 : DD) (x0 x1 x2 x3 : DD) (q : Pos → Bool) : sc_l_4 x4 x0 x1 x2 x3 q = nxD x4 (nxD x3 (nxD x2 (nxD x1 (nxD x0 (q (.t .a .a .a .a .a .a .a .a)) (fun y => q (.l y .a .a .a .a .a))) (fun y => q (.l x0 y .a .a .a .a))) (fun y => q (.l x0 x1 y .a .a .a))) (fun y => q (.l x0 x1 x2 y .a .a))) (fun y => q (.l x0 x1 x2 x3 y .a)) := by cases x4 <;> first | rfl | exact sc_l_3_eq _ _ _ _ _
theorem sc_l_5_eq (x5 : DD) (x0 x1 x2 x3 x4 : DD) (q : Pos → Bool) : sc_l_5 x5 x0 x1 x2 x3 x4 q = nxD x5 (nxD x4 (nxD x3 (nxD x2 (nxD x1 (nxD x0 (q (.t .a .a .a .a .a .a .a .a)) (fun y => q (.l y .a .a .a .a .a))) (fun y => q (.l x0 y .a .a .a .a))) (fun y => q (.l x0 x1 y .a .a .a))) (fun y => q (.l x0 x1 x2 y .a .a))) (fun y => q (.l x0 x1 x2 x3 y .a))) (fun y => q (.l x0 x1 x2 x3 x4 y)) := by cases x5 <;> first | rfl | exact sc_l_4_eq _ _ _ _ _ _
theorem sc_t_0_eq (x0 : DD) (q : Pos → Bool) : sc_t_0 x0  q = nxD x0 (q (.x 0)) (fun y => q (.t y .a .a .a .a .a .a .a)) := by cases x0 <;> first | rfl | exact rfl
theorem sc_t_1_eq (x1 : DD) (x0 : DD) (q : Pos → Bool) : sc_t_1 x1 x0 q = nxD x1 (nxD x0 (q (.x 0)) (fun y => q (.t y .a .a .a .a .a .a .a))) (fun y => q (.t x0 y .a .a .a .a .a .a)) := by cases x1 <;> first | rfl | exact sc_t_0_eq _  _
theorem sc_t_2_eq (x2 : DD) (x0 x1 : DD) (q : Pos → Bool) : sc_t_2 x2 x0 x1 q = nxD x2 (nxD x1 (nxD x0 (q (.x 0)) (fun y => q (.t y .a .a .a .a .a .a .a))) (fun y => q (.t x0 y .a .a .a .a .a .a))) (fun y => q (.t x0 x1 y .a .a .a .a .a)) := by cases x2 <;> first | rfl | exact sc_t_1_eq _ _ _
theorem sc_t_3_eq (x3 : DD) (x0 x1 x2 : DD) (q : Pos → Bool) : sc_t_3 x3 x0 x1 x2 q = nxD x3 (nxD x2 (nxD x1 (nxD x0 (q (.x 0)) (fun y => q (.t y .a .a .a .a .a .a .a))) (fun y => q (.t x0 y .a .a .a .a .a .a))) (fun y => q (.t x0 x1 y .a .a .a .a .a))) (fun y => q (.t x0 x1 x2 y .a .a .a .a)) := by cases x3 <;> first | rfl | exact sc_t_2_eq _ _ _ _
theorem sc_t_4_eq (x4 : DD) (x0 x1 x2 x3 : DD) (q : Pos → Bool) : sc_t_4 x4 x0 x1 x2 x3 q = nxD x4 (nxD x3 (nxD x2 (nxD x1 (nxD x0 (q (.x 0)) (fun y => q (.t y .a .a .a .a .a .a .a))) (fun y => q (.t x0 y .a .a .a .a .a .a))) (fun y => q (.t x0 x1 y .a .a .a .a .a))) (fun y => q (.t x0 x1 x2 y .a .a .a .a))) (fun y => q (.t x0 x1 x2 x3 y .a .a .a)) := by cases x4 <;> first | rfl | exact sc_t_3_eq _ _ _ _ _
theorem sc_t_5_eq (x5 : DD) (x0 x1 x2 x3 x4 : DD) (q : Pos → Bool) : sc_t_5 x5 x0 x1 x2 x3 x4 q = nxD x5 (nxD x4 (nxD x3 (nxD x2 (nxD x1 (nxD x0 (q (.x 0)) (fun y => q (.t y .a .a .a .a .a .a .a))) (fun y => q (.t x0 y .a .a .a .a .a .a))) (fun y => q (.t x0 x1 y .a .a .a .a .a))) (fun y => q (.t x0 x1 x2 y .a .a .a .a))) (fun y => q (.t x0 x1 x2 x3 y .a .a .a))) (fun y => q (.t x0 x1 x2 x3 x4 y .a .a)) := by cases x5 <;> first | rfl | exact sc_t_4_eq _ _ _ _ _ _
theorem sc_t_6_eq (x6 : DD) (x0 x1 x2 x3 x4 x5 : DD) (q : Pos → Bool) : sc_t_6 x6 x0 x1 x2 x3 x4 x5 q = nxD x6 (nxD x5 (nxD x4 (nxD x3 (nxD x2 (nxD x1 (nxD x0 (q (.x 0)) (fun y => q (.t y .a .a .a .a .a .a .a))) (fun y => q (.t x0 y .a .a .a .a .a .a))) (fun y => q (.t x0 x1 y .a .a .a .a .a))) (fun y => q (.t x0 x1 x2 y .a .a .a .a))) (fun y => q (.t x0 x1 x2 x3 y .a .a .a))) (fun y => q (.t x0 x1 x2 x3 x4 y .a .a))) (fun y => q (.t x0 x1 x2 x3 x4 x5 y .a)) := by cases x6 <;> first | rfl | exact sc_t_5_eq _ _ _ _ _ _ _
theorem sc_t_7_eq (x7 : DD) (x0 x1 x2 x3 x4 x5 x6 : DD) (q : Pos → Bool) : sc_t_7 x7 x0 x1 x2 x3 x4 x5 x6 q = nxD x7 (nxD x6 (nxD x5 (nxD x4 (nxD x3 (nxD x2 (nxD x1 (nxD x0 (q (.x 0)) (fun y => q (.t y .a .a .a .a .a .a .a))) (fun y => q (.t x0 y .a .a .a .a .a .a))) (fun y => q (.t x0 x1 y .a .a .a .a .a))) (fun y => q (.t x0 x1 x2 y .a .a .a .a))) (fun y => q (.t x0 x1 x2 x3 y .a .a .a))) (fun y => q (.t x0 x1 x2 x3 x4 y .a .a))) (fun y => q (.t x0 x1 x2 x3 x4 x5 y .a))) (fun y => q (.t x0 x1 x2 x3 x4 x5 x6 y)) := by cases x7 <;> first | rfl | exact sc_t_6_eq _ _ _ _ _ _ _ _
theorem succK_eq (p : Pos) (k : Pos → Bool) : succK p k = k p.succ := by
  cases p
  case s x0 x1 x2 => show sc_s_2 x2 x0 x1 k = _; rw [sc_s_2_eq]; simp only [Pos.succ, nxD_map k]
  case m x0 x1 x2 x3 x4 => show sc_m_4 x4 x0 x1 x2 x3 k = _; rw [sc_m_4_eq]; simp only [Pos.succ, nxD_map k]
  case l x0 x1 x2 x3 x4 x5 => show sc_l_5 x5 x0 x1 x2 x3 x4 k = _; rw [sc_l_5_eq]; simp only [Pos.succ, nxD_map k]
  case t x0 x1 x2 x3 x4 x5 x6 x7 => show sc_t_7 x7 x0 x1 x2 x3 x4 x5 x6 k = _; rw [sc_t_7_eq]; simp only [Pos.succ, nxD_map k]
  case x n => rfl
abbrev V_0 : Type := Option AV
abbrev V_1 : Type := N4 V_0
abbrev V_2 : Type := N4 V_1
abbrev V_3 : Type := N4 V_2
abbrev V_4 : Type := N4 V_3
abbrev V_5 : Type := N4 V_4
abbrev V_6 : Type := N4 V_5
abbrev V_7 : Type := N4 V_6
abbrev V_8 : Type := N4 V_7
abbrev B_0 : Type := Option Blk
abbrev B_1 : Type := N4 B_0
abbrev B_2 : Type := N4 B_1
abbrev B_3 : Type := N4 B_2
abbrev B_4 : Type := N4 B_3
abbrev B_5 : Type := N4 B_4
abbrev B_6 : Type := N4 B_5
abbrev B_7 : Type := N4 B_6
abbrev B_8 : Type := N4 B_7

section
def sV1 : DD → V_1 → V_0 := @DD.rec (fun _ => V_1 → V_0) (fun n => @N4.rec V_0 (fun _ => V_0) (fun a _ _ _ => a) n) (fun n => @N4.rec V_0 (fun _ => V_0) (fun _ b _ _ => b) n) (fun n => @N4.rec V_0 (fun _ => V_0) (fun _ _ c _ => c) n) (fun n => @N4.rec V_0 (fun _ => V_0) (fun _ _ _ d => d) n)
theorem sV1_eq (x : DD) (n : V_1) : sV1 x n = sel x n := by cases n; cases x <;> rfl
def sV2 : DD → V_2 → V_1 := @DD.rec (fun _ => V_2 → V_1) (fun n => @N4.rec V_1 (fun _ => V_1) (fun a _ _ _ => a) n) (fun n => @N4.rec V_1 (fun _ => V_1) (fun _ b _ _ => b) n) (fun n => @N4.rec V_1 (fun _ => V_1) (fun _ _ c _ => c) n) (fun n => @N4.rec V_1 (fun _ => V_1) (fun _ _ _ d => d) n)
theorem sV2_eq (x : DD) (n : V_2) : sV2 x n = sel x n := by cases n; cases x <;> rfl
def sV3 : DD → V_3 → V_2 := @DD.rec (fun _ => V_3 → V_2) (fun n => @N4.rec V_2 (fun _ => V_2) (fun a _ _ _ => a) n) (fun n => @N4.rec V_2 (fun _ => V_2) (fun _ b _ _ => b) n) (fun n => @N4.rec V_2 (fun _ => V_2) (fun _ _ c _ => c) n) (fun n => @N4.rec V_2 (fun _ => V_2) (fun _ _ _ d => d) n)
theorem sV3_eq (x : DD) (n : V_3) : sV3 x n = sel x n := by cases n; cases x <;> rfl
def sV4 : DD → V_4 → V_3 := @DD.rec (fun _ => V_4 → V_3) (fun n => @N4.rec V_3 (fun _ => V_3) (fun a _ _ _ => a) n) (fun n => @N4.rec V_3 (fun _ => V_3) (fun _ b _ _ => b) n) (fun n => @N4.rec V_3 (fun _ => V_3) (fun _ _ c _ => c) n) (fun n => @N4.rec V_3 (fun _ => V_3) (fun _ _ _ d => d) n)
theorem sV4_eq (x : DD) (n : V_4) : sV4 x n = sel x n := by cases n; cases x <;> rfl
def sV5 : DD → V_5 → V_4 := @DD.rec (fun _ => V_5 → V_4) (fun n => @N4.rec V_4 (fun _ => V_4) (fun a _ _ _ => a) n) (fun n => @N4.rec V_4 (fun _ => V_4) (fun _ b _ _ => b) n) (fun n => @N4.rec V_4 (fun _ => V_4) (fun _ _ c _ => c) n) (fun n => @N4.rec V_4 (fun _ => V_4) (fun _ _ _ d => d) n)
theorem sV5_eq (x : DD) (n : V_5) : sV5 x n = sel x n := by cases n; cases x <;> rfl
def sV6 : DD → V_6 → V_5 := @DD.rec (fun _ => V_6 → V_5) (fun n => @N4.rec V_5 (fun _ => V_5) (fun a _ _ _ => a) n) (fun n => @N4.rec V_5 (fun _ => V_5) (fun _ b _ _ => b) n) (fun n => @N4.rec V_5 (fun _ => V_5) (fun _ _ c _ => c) n) (fun n => @N4.rec V_5 (fun _ => V_5) (fun _ _ _ d => d) n)
theorem sV6_eq (x : DD) (n : V_6) : sV6 x n = sel x n := by cases n; cases x <;> rfl
def sV7 : DD → V_7 → V_6 := @DD.rec (fun _ => V_7 → V_6) (fun n => @N4.rec V_6 (fun _ => V_6) (fun a _ _ _ => a) n) (fun n => @N4.rec V_6 (fun _ => V_6) (fun _ b _ _ => b) n) (fun n => @N4.rec V_6 (fun _ => V_6) (fun _ _ c _ => c) n) (fun n => @N4.rec V_6 (fun _ => V_6) (fun _ _ _ d => d) n)
theorem sV7_eq (x : DD) (n : V_7) : sV7 x n = sel x n := by cases n; cases x <;> rfl
def sV8 : DD → V_8 → V_7 := @DD.rec (fun _ => V_8 → V_7) (fun n => @N4.rec V_7 (fun _ => V_7) (fun a _ _ _ => a) n) (fun n => @N4.rec V_7 (fun _ => V_7) (fun _ b _ _ => b) n) (fun n => @N4.rec V_7 (fun _ => V_7) (fun _ _ c _ => c) n) (fun n => @N4.rec V_7 (fun _ => V_7) (fun _ _ _ d => d) n)
theorem sV8_eq (x : DD) (n : V_8) : sV8 x n = sel x n := by cases n; cases x <;> rfl
def gV_s' : V_3 → V_5 → V_6 → V_8 → (Nat → Option AV) → D3 ((Option AV → Bool) → Bool) := fun s _ _ _ _ x0 x1 x2 k => k (sV1 x2 (sV2 x1 (sV3 x0 s)))
def gV_s : D3 (PT AV → (Option AV → Bool) → Bool) := fun x0 x1 x2 t k => @PT.rec AV (fun _ => D3 ((Option AV → Bool) → Bool)) gV_s' t x0 x1 x2 k
def gV_m' : V_3 → V_5 → V_6 → V_8 → (Nat → Option AV) → D5 ((Option AV → Bool) → Bool) := fun _ m _ _ _ x0 x1 x2 x3 x4 k => k (sV1 x4 (sV2 x3 (sV3 x2 (sV4 x1 (sV5 x0 m)))))
def gV_m : D5 (PT AV → (Option AV → Bool) → Bool) := fun x0 x1 x2 x3 x4 t k => @PT.rec AV (fun _ => D5 ((Option AV → Bool) → Bool)) gV_m' t x0 x1 x2 x3 x4 k
def gV_l' : V_3 → V_5 → V_6 → V_8 → (Nat → Option AV) → D6 ((Option AV → Bool) → Bool) := fun _ _ l _ _ x0 x1 x2 x3 x4 x5 k => k (sV1 x5 (sV2 x4 (sV3 x3 (sV4 x2 (sV5 x1 (sV6 x0 l))))))
def gV_l : D6 (PT AV → (Option AV → Bool) → Bool) := fun x0 x1 x2 x3 x4 x5 t k => @PT.rec AV (fun _ => D6 ((Option AV → Bool) → Bool)) gV_l' t x0 x1 x2 x3 x4 x5 k
def gV_t' : V_3 → V_5 → V_6 → V_8 → (Nat → Option AV) → D8 ((Option AV → Bool) → Bool) := fun _ _ _ t _ x0 x1 x2 x3 x4 x5 x6 x7 k => k (sV1 x7 (sV2 x6 (sV3 x5 (sV4 x4 (sV5 x3 (sV6 x2 (sV7 x1 (sV8 x0 t))))))))
def gV_t : D8 (PT AV → (Option AV → Bool) → Bool) := fun x0 x1 x2 x3 x4 x5 x6 x7 t k => @PT.rec AV (fun _ => D8 ((Option AV → Bool) → Bool)) gV_t' t x0 x1 x2 x3 x4 x5 x6 x7 k
def getV : Pos → PT AV → (Option AV → Bool) → Bool := @Pos.rec (fun _ => PT AV → (Option AV → Bool) → Bool) gV_s gV_m gV_l gV_t (fun n t k => @PT.rec AV (fun _ => Bool) (fun _ _ _ _ x => k (x n)) t)
theorem getV_eq (p : Pos) (t : PT AV) (k : Option AV → Bool) : getV p t k = k (PT.get p t) := by
  cases t
  cases p
  case s => show k (sV1 _ (sV2 _ (sV3 _ _))) = _; simp only [PT.get, sV1_eq, sV2_eq, sV3_eq]
  case m => show k (sV1 _ (sV2 _ (sV3 _ (sV4 _ (sV5 _ _))))) = _; simp only [PT.get, sV1_eq, sV2_eq, sV3_eq, sV4_eq, sV5_eq]
  case l => show k (sV1 _ (sV2 _ (sV3 _ (sV4 _ (sV5 _ (sV6 _ _)))))) = _; simp only [PT.get, sV1_eq, sV2_eq, sV3_eq, sV4_eq, sV5_eq, sV6_eq]
  case t => show k (sV1 _ (sV2 _ (sV3 _ (sV4 _ (sV5 _ (sV6 _ (sV7 _ (sV8 _ _)))))))) = _; simp only [PT.get, sV1_eq, sV2_eq, sV3_eq, sV4_eq, sV5_eq, sV6_eq, sV7_eq, sV8_eq]
  case x => rfl
def pV1a' : V_0 → V_0 → V_0 → V_0 → Option AV → (V_1 → Bool) → Bool := fun _ b c d  v k => k (.mk v b c d)
def pV1a : Option AV → V_1 → (V_1 → Bool) → Bool := fun  v n k => @N4.rec V_0 (fun _ => Option AV → (V_1 → Bool) → Bool) pV1a' n  v k
def pV1b' : V_0 → V_0 → V_0 → V_0 → Option AV → (V_1 → Bool) → Bool := fun a _ c d  v k => k (.mk a v c d)
def pV1b : Option AV → V_1 → (V_1 → Bool) → Bool := fun  v n k => @N4.rec V_0 (fun _ => Option AV → (V_1 → Bool) → Bool) pV1b' n  v k
def pV1c' : V_0 → V_0 → V_0 → V_0 → Option AV → (V_1 → Bool) → Bool := fun a b _ d  v k => k (.mk a b v d)
def pV1c : Option AV → V_1 → (V_1 → Bool) → Bool := fun  v n k => @N4.rec V_0 (fun _ => Option AV → (V_1 → Bool) → Bool) pV1c' n  v k
def pV1d' : V_0 → V_0 → V_0 → V_0 → Option AV → (V_1 → Bool) → Bool := fun a b c _  v k => k (.mk a b c v)
def pV1d : Option AV → V_1 → (V_1 → Bool) → Bool := fun  v n k => @N4.rec V_0 (fun _ => Option AV → (V_1 → Bool) → Bool) pV1d' n  v k
def pV1 : DD → Option AV → V_1 → (V_1 → Bool) → Bool := @DD.rec (fun _ => Option AV → V_1 → (V_1 → Bool) → Bool) pV1a pV1b pV1c pV1d
theorem pV1_eq (y0 : DD) (v : Option AV) (n : V_1) (k : V_1 → Bool) : pV1 y0 v n k = k (upd y0 n v) := by
  cases n; cases y0 <;> rfl
def pV2a' : V_1 → V_1 → V_1 → V_1 → DD → Option AV → (V_2 → Bool) → Bool := fun a b c d x0 v k => pV1 x0 v a (fun u => k (.mk u b c d))
def pV2a : DD → Option AV → V_2 → (V_2 → Bool) → Bool := fun x0 v n k => @N4.rec V_1 (fun _ => DD → Option AV → (V_2 → Bool) → Bool) pV2a' n x0 v k
def pV2b' : V_1 → V_1 → V_1 → V_1 → DD → Option AV → (V_2 → Bool) → Bool := fun a b c d x0 v k => pV1 x0 v b (fun u => k (.mk a u c d))
def pV2b : DD → Option AV → V_2 → (V_2 → Bool) → Bool := fun x0 v n k => @N4.rec V_1 (fun _ => DD → Option AV → (V_2 → Bool) → Bool) pV2b' n x0 v k
def pV2c' : V_1 → V_1 → V_1 → V_1 → DD → Option AV → (V_2 → Bool) → Bool := fun a b c d x0 v k => pV1 x0 v c (fun u => k (.mk a b u d))
def pV2c : DD → Option AV → V_2 → (V_2 → Bool) → Bool := fun x0 v n k => @N4.rec V_1 (fun _ => DD → Option AV → (V_2 → Bool) → Bool) pV2c' n x0 v k
def pV2d' : V_1 → V_1 → V_1 → V_1 → DD → Option AV → (V_2 → Bool) → Bool := fun a b c d x0 v k => pV1 x0 v d (fun u => k (.mk a b c u))
def pV2d : DD → Option AV → V_2 → (V_2 → Bool) → Bool := fun x0 v n k => @N4.rec V_1 (fun _ => DD → Option AV → (V_2 → Bool) → Bool) pV2d' n x0 v k
def pV2 : D2 (Option AV → V_2 → (V_2 → Bool) → Bool) := @DD.rec (fun _ => DD → Option AV → V_2 → (V_2 → Bool) → Bool) pV2a pV2b pV2c pV2d
theorem pV2_eq (y0 y1 : DD) (v : Option AV) (n : V_2) (k : V_2 → Bool) : pV2 y0 y1 v n k = k (upd y0 n (upd y1 (sel y0 n) v)) := by
  cases n; cases y0 <;> exact pV1_eq _ _ _ _
def pV3a' : V_2 → V_2 → V_2 → V_2 → D2 (Option AV → (V_3 → Bool) → Bool) := fun a b c d x0 x1 v k => pV2 x0 x1 v a (fun u => k (.mk u b c d))
def pV3a : D2 (Option AV → V_3 → (V_3 → Bool) → Bool) := fun x0 x1 v n k => @N4.rec V_2 (fun _ => D2 (Option AV → (V_3 → Bool) → Bool)) pV3a' n x0 x1 v k
def pV3b' : V_2 → V_2 → V_2 → V_2 → D2 (Option AV → (V_3 → Bool) → Bool) := fun a b c d x0 x1 v k => pV2 x0 x1 v b (fun u => k (.mk a u c d))
def pV3b : D2 (Option AV → V_3 → (V_3 → Bool) → Bool) := fun x0 x1 v n k => @N4.rec V_2 (fun _ => D2 (Option AV → (V_3 → Bool) → Bool)) pV3b' n x0 x1 v k
def pV3c' : V_2 → V_2 → V_2 → V_2 → D2 (Option AV → (V_3 → Bool) → Bool) := fun a b c d x0 x1 v k => pV2 x0 x1 v c (fun u => k (.mk a b u d))
def pV3c : D2 (Option AV → V_3 → (V_3 → Bool) → Bool) := fun x0 x1 v n k => @N4.rec V_2 (fun _ => D2 (Option AV → (V_3 → Bool) → Bool)) pV3c' n x0 x1 v k
def pV3d' : V_2 → V_2 → V_2 → V_2 → D2 (Option AV → (V_3 → Bool) → Bool) := fun a b c d x0 x1 v k => pV2 x0 x1 v d (fun u => k (.mk a b c u))
def pV3d : D2 (Option AV → V_3 → (V_3 → Bool) → Bool) := fun x0 x1 v n k => @N4.rec V_2 (fun _ => D2 (Option AV → (V_3 → Bool) → Bool)) pV3d' n x0 x1 v k
def pV3 : D3 (Option AV → V_3 → (V_3 → Bool) → Bool) := @DD.rec (fun _ => D2 (Option AV → V_3 → (V_3 → Bool) → Bool)) pV3a pV3b pV3c pV3d
theorem pV3_eq (y0 y1 y2 : DD) (v : Option AV) (n : V_3) (k : V_3 → Bool) : pV3 y0 y1 y2 v n k = k (upd y0 n (upd y1 (sel y0 n) (upd y2 (sel y1 (sel y0 n)) v))) := by
  cases n; cases y0 <;> exact pV2_eq _ _ _ _ _
def pV4a' : V_3 → V_3 → V_3 → V_3 → D3 (Option AV → (V_4 → Bool) → Bool) := fun a b c d x0 x1 x2 v k => pV3 x0 x1 x2 v a (fun u => k (.mk u b c d))
def pV4a : D3 (Option AV → V_4 → (V_4 → Bool) → Bool) := fun x0 x1 x2 v n k => @N4.rec V_3 (fun _ => D3 (Option AV → (V_4 → Bool) → Bool)) pV4a' n x0 x1 x2 v k
def pV4b' : V_3 → V_3 → V_3 → V_3 → D3 (Option AV → (V_4 → Bool) → Bool) := fun a b c d x0 x1 x2 v k => pV3 x0 x1 x2 v b (fun u => k (.mk a u c d))
def pV4b : D3 (Option AV → V_4 → (V_4 → Bool) → Bool) := fun x0 x1 x2 v n k => @N4.rec V_3 (fun _ => D3 (Option AV → (V_4 → Bool) → Bool)) pV4b' n x0 x1 x2 v k
def pV4c' : V_3 → V_3 → V_3 → V_3 → D3 (Option AV → (V_4 → Bool) → Bool) := fun a b c d x0 x1 x2 v k => pV3 x0 x1 x2 v c (fun u => k (.mk a b u d))
def pV4c : D3 (Option AV → V_4 → (V_4 → Bool) → Bool) := fun x0 x1 x2 v n k => @N4.rec V_3 (fun _ => D3 (Option AV → (V_4 → Bool) → Bool)) pV4c' n x0 x1 x2 v k
def pV4d' : V_3 → V_3 → V_3 → V_3 → D3 (Option AV → (V_4 → Bool) → Bool) := fun a b c d x0 x1 x2 v k => pV3 x0 x1 x2 v d (fun u => k (.mk a b c u))
def pV4d : D3 (Option AV → V_4 → (V_4 → Bool) → Bool) := fun x0 x1 x2 v n k => @N4.rec V_3 (fun _ => D3 (Option AV → (V_4 → Bool) → Bool)) pV4d' n x0 x1 x2 v k
def pV4 : D4 (Option AV → V_4 → (V_4 → Bool) → Bool) := @DD.rec (fun _ => D3 (Option AV → V_4 → (V_4 → Bool) → Bool)) pV4a pV4b pV4c pV4d
theorem pV4_eq (y0 y1 y2 y3 : DD) (v : Option AV) (n : V_4) (k : V_4 → Bool) : pV4 y0 y1 y2 y3 v n k = k (upd y0 n (upd y1 (sel y0 n) (upd y2 (sel y1 (sel y0 n)) (upd y3 (sel y2 (sel y1 (sel y0 n))) v)))) := by
  cases n; cases y0 <;> exact pV3_eq _ _ _ _ _ _
def pV5a' : V_4 → V_4 → V_4 → V_4 → D4 (Option AV → (V_5 → Bool) → Bool) := fun a b c d x0 x1 x2 x3 v k => pV4 x0 x1 x2 x3 v a (fun u => k (.mk u b c d))
def pV5a : D4 (Option AV → V_5 → (V_5 → Bool) → Bool) := fun x0 x1 x2 x3 v n k => @N4.rec V_4 (fun _ => D4 (Option AV → (V_5 → Bool) → Bool)) pV5a' n x0 x1 x2 x3 v k
def pV5b' : V_4 → V_4 → V_4 → V_4 → D4 (Option AV → (V_5 → Bool) → Bool) := fun a b c d x0 x1 x2 x3 v k => pV4 x0 x1 x2 x3 v b (fun u => k (.mk a u c d))
def pV5b : D4 (Option AV → V_5 → (V_5 → Bool) → Bool) := fun x0 x1 x2 x3 v n k => @N4.rec V_4 (fun _ => D4 (Option AV → (V_5 → Bool) → Bool)) pV5b' n x0 x1 x2 x3 v k
def pV5c' : V_4 → V_4 → V_4 → V_4 → D4 (Option AV → (V_5 → Bool) → Bool) := fun a b c d x0 x1 x2 x3 v k => pV4 x0 x1 x2 x3 v c (fun u => k (.mk a b u d))
def pV5c : D4 (Option AV → V_5 → (V_5 → Bool) → Bool) := fun x0 x1 x2 x3 v n k => @N4.rec V_4 (fun _ => D4 (Option AV → (V_5 → Bool) → Bool)) pV5c' n x0 x1 x2 x3 v k
def pV5d' : V_4 → V_4 → V_4 → V_4 → D4 (Option AV → (V_5 → Bool) → Bool) := fun a b c d x0 x1 x2 x3 v k => pV4 x0 x1 x2 x3 v d (fun u => k (.mk a b c u))
def pV5d : D4 (Option AV → V_5 → (V_5 → Bool) → Bool) := fun x0 x1 x2 x3 v n k => @N4.rec V_4 (fun _ => D4 (Option AV → (V_5 → Bool) → Bool)) pV5d' n x0 x1 x2 x3 v k
def pV5 : D5 (Option AV → V_5 → (V_5 → Bool) → Bool) := @DD.rec (fun _ => D4 (Option AV → V_5 → (V_5 → Bool) → Bool)) pV5a pV5b pV5c pV5d
theorem pV5_eq (y0 y1 y2 y3 y4 : DD) (v : Option AV) (n : V_5) (k : V_5 → Bool) : pV5 y0 y1 y2 y3 y4 v n k = k (upd y0 n (upd y1 (sel y0 n) (upd y2 (sel y1 (sel y0 n)) (upd y3 (sel y2 (sel y1 (sel y0 n))) (upd y4 (sel y3 (sel y2 (sel y1 (sel y0 n)))) v))))) := by
  cases n; cases y0 <;> exact pV4_eq _ _ _ _ _ _ _
def pV6a' : V_5 → V_5 → V_5 → V_5 → D5 (Option AV → (V_6 → Bool) → Bool) := fun a b c d x0 x1 x2 x3 x4 v k => pV5 x0 x1 x2 x3 x4 v a (fun u => k (.mk u b c d))
def pV6a : D5 (Option AV → V_6 → (V_6 → Bool) → Bool) := fun x0 x1 x2 x3 x4 v n k => @N4.rec V_5 (fun _ => D5 (Option AV → (V_6 → Bool) → Bool)) pV6a' n x0 x1 x2 x3 x4 v k
def pV6b' : V_5 → V_5 → V_5 → V_5 → D5 (Option AV → (V_6 → Bool) → Bool) := fun a b c d x0 x1 x2 x3 x4 v k => pV5 x0 x1 x2 x3 x4 v b (fun u => k (.mk a u c d))
def pV6b : D5 (Option AV → V_6 → (V_6 → Bool) → Bool) := fun x0 x1 x2 x3 x4 v n k => @N4.rec V_5 (fun _ => D5 (Option AV → (V_6 → Bool) → Bool)) pV6b' n x0 x1 x2 x3 x4 v k
def pV6c' : V_5 → V_5 → V_5 → V_5 → D5 (Option AV → (V_6 → Bool) → Bool) := fun a b c d x0 x1 x2 x3 x4 v k => pV5 x0 x1 x2 x3 x4 v c (fun u => k (.mk a b u d))
def pV6c : D5 (Option AV → V_6 → (V_6 → Bool) → Bool) := fun x0 x1 x2 x3 x4 v n k => @N4.rec V_5 (fun _ => D5 (Option AV → (V_6 → Bool) → Bool)) pV6c' n x0 x1 x2 x3 x4 v k
def pV6d' : V_5 → V_5 → V_5 → V_5 → D5 (Option AV → (V_6 → Bool) → Bool) := fun a b c d x0 x1 x2 x3 x4 v k => pV5 x0 x1 x2 x3 x4 v d (fun u => k (.mk a b c u))
def pV6d : D5 (Option AV → V_6 → (V_6 → Bool) → Bool) := fun x0 x1 x2 x3 x4 v n k => @N4.rec V_5 (fun _ => D5 (Option AV → (V_6 → Bool) → Bool)) pV6d' n x0 x1 x2 x3 x4 v k
def pV6 : D6 (Option AV → V_6 → (V_6 → Bool) → Bool) := @DD.rec (fun _ => D5 (Option AV → V_6 → (V_6 → Bool) → Bool)) pV6a pV6b pV6c pV6d
theorem pV6_eq (y0 y1 y2 y3 y4 y5 : DD) (v : Option AV) (n : V_6) (k : V_6 → Bool) : pV6 y0 y1 y2 y3 y4 y5 v n k = k (upd y0 n (upd y1 (sel y0 n) (upd y2 (sel y1 (sel y0 n)) (upd y3 (sel y2 (sel y1 (sel y0 n))) (upd y4 (sel y3 (sel y2 (sel y1 (sel y0 n)))) (upd y5 (sel y4 (sel y3 (sel y2 (sel y1 (sel y0 n))))) v)))))) := by
  cases n; cases y0 <;> exact pV5_eq _ _ _ _ _ _ _ _
def pV7a' : V_6 → V_6 → V_6 → V_6 → D6 (Option AV → (V_7 → Bool) → Bool) := fun a b c d x0 x1 x2 x3 x4 x5 v k => pV6 x0 x1 x2 x3 x4 x5 v a (fun u => k (.mk u b c d))
def pV7a : D6 (Option AV → V_7 → (V_7 → Bool) → Bool) := fun x0 x1 x2 x3 x4 x5 v n k => @N4.rec V_6 (fun _ => D6 (Option AV → (V_7 → Bool) → Bool)) pV7a' n x0 x1 x2 x3 x4 x5 v k
def pV7b' : V_6 → V_6 → V_6 → V_6 → D6 (Option AV → (V_7 → Bool) → Bool) := fun a b c d x0 x1 x2 x3 x4 x5 v k => pV6 x0 x1 x2 x3 x4 x5 v b (fun u => k (.mk a u c d))
def pV7b : D6 (Option AV → V_7 → (V_7 → Bool) → Bool) := fun x0 x1 x2 x3 x4 x5 v n k => @N4.rec V_6 (fun _ => D6 (Option AV → (V_7 → Bool) → Bool)) pV7b' n x0 x1 x2 x3 x4 x5 v k
def pV7c' : V_6 → V_6 → V_6 → V_6 → D6 (Option AV → (V_7 → Bool) → Bool) := fun a b c d x0 x1 x2 x3 x4 x5 v k => pV6 x0 x1 x2 x3 x4 x5 v c (fun u => k (.mk a b u d))
def pV7c : D6 (Option AV → V_7 → (V_7 → Bool) → Bool) := fun x0 x1 x2 x3 x4 x5 v n k => @N4.rec V_6 (fun _ => D6 (Option AV → (V_7 → Bool) → Bool)) pV7c' n x0 x1 x2 x3 x4 x5 v k
def pV7d' : V_6 → V_6 → V_6 → V_6 → D6 (Option AV → (V_7 → Bool) → Bool) := fun a b c d x0 x1 x2 x3 x4 x5 v k => pV6 x0 x1 x2 x3 x4 x5 v d (fun u => k (.mk a b c u))
def pV7d : D6 (Option AV → V_7 → (V_7 → Bool) → Bool) := fun x0 x1 x2 x3 x4 x5 v n k => @N4.rec V_6 (fun _ => D6 (Option AV → (V_7 → Bool) → Bool)) pV7d' n x0 x1 x2 x3 x4 x5 v k
def pV7 : D7 (Option AV → V_7 → (V_7 → Bool) → Bool) := @DD.rec (fun _ => D6 (Option AV → V_7 → (V_7 → Bool) → Bool)) pV7a pV7b pV7c pV7d
theorem pV7_eq (y0 y1 y2 y3 y4 y5 y6 : DD) (v : Option AV) (n : V_7) (k : V_7 → Bool) : pV7 y0 y1 y2 y3 y4 y5 y6 v n k = k (upd y0 n (upd y1 (sel y0 n) (upd y2 (sel y1 (sel y0 n)) (upd y3 (sel y2 (sel y1 (sel y0 n))) (upd y4 (sel y3 (sel y2 (sel y1 (sel y0 n)))) (upd y5 (sel y4 (sel y3 (sel y2 (sel y1 (sel y0 n))))) (upd y6 (sel y5 (sel y4 (sel y3 (sel y2 (sel y1 (sel y0 n)))))) v))))))) := by
  cases n; cases y0 <;> exact pV6_eq _ _ _ _ _ _ _ _ _
def pV8a' : V_7 → V_7 → V_7 → V_7 → D7 (Option AV → (V_8 → Bool) → Bool) := fun a b c d x0 x1 x2 x3 x4 x5 x6 v k => pV7 x0 x1 x2 x3 x4 x5 x6 v a (fun u => k (.mk u b c d))
def pV8a : D7 (Option AV → V_8 → (V_8 → Bool) → Bool) := fun x0 x1 x2 x3 x4 x5 x6 v n k => @N4.rec V_7 (fun _ => D7 (Option AV → (V_8 → Bool) → Bool)) pV8a' n x0 x1 x2 x3 x4 x5 x6 v k
def pV8b' : V_7 → V_7 → V_7 → V_7 → D7 (Option AV → (V_8 → Bool) → Bool) := fun a b c d x0 x1 x2 x3 x4 x5 x6 v k => pV7 x0 x1 x2 x3 x4 x5 x6 v b (fun u => k (.mk a u c d))
def pV8b : D7 (Option AV → V_8 → (V_8 → Bool) → Bool) := fun x0 x1 x2 x3 x4 x5 x6 v n k => @N4.rec V_7 (fun _ => D7 (Option AV → (V_8 → Bool) → Bool)) pV8b' n x0 x1 x2 x3 x4 x5 x6 v k
def pV8c' : V_7 → V_7 → V_7 → V_7 → D7 (Option AV → (V_8 → Bool) → Bool) := fun a b c d x0 x1 x2 x3 x4 x5 x6 v k => pV7 x0 x1 x2 x3 x4 x5 x6 v c (fun u => k (.mk a b u d))
def pV8c : D7 (Option AV → V_8 → (V_8 → Bool) → Bool) := fun x0 x1 x2 x3 x4 x5 x6 v n k => @N4.rec V_7 (fun _ => D7 (Option AV → (V_8 → Bool) → Bool)) pV8c' n x0 x1 x2 x3 x4 x5 x6 v k
def pV8d' : V_7 → V_7 → V_7 → V_7 → D7 (Option AV → (V_8 → Bool) → Bool) := fun a b c d x0 x1 x2 x3 x4 x5 x6 v k => pV7 x0 x1 x2 x3 x4 x5 x6 v d (fun u => k (.mk a b c u))
def pV8d : D7 (Option AV → V_8 → (V_8 → Bool) → Bool) := fun x0 x1 x2 x3 x4 x5 x6 v n k => @N4.rec V_7 (fun _ => D7 (Option AV → (V_8 → Bool) → Bool)) pV8d' n x0 x1 x2 x3 x4 x5 x6 v k
def pV8 : D8 (Option AV → V_8 → (V_8 → Bool) → Bool) := @DD.rec (fun _ => D7 (Option AV → V_8 → (V_8 → Bool) → Bool)) pV8a pV8b pV8c pV8d
theorem pV8_eq (y0 y1 y2 y3 y4 y5 y6 y7 : DD) (v : Option AV) (n : V_8) (k : V_8 → Bool) : pV8 y0 y1 y2 y3 y4 y5 y6 y7 v n k = k (upd y0 n (upd y1 (sel y0 n) (upd y2 (sel y1 (sel y0 n)) (upd y3 (sel y2 (sel y1 (sel y0 n))) (upd y4 (sel y3 (sel y2 (sel y1 (sel y0 n)))) (upd y5 (sel y4 (sel y3 (sel y2 (sel y1 (sel y0 n))))) (upd y6 (sel y5 (sel y4 (sel y3 (sel y2 (sel y1 (sel y0 n)))))) (upd y7 (sel y6 (sel y5 (sel y4 (sel y3 (sel y2 (sel y1 (sel y0 n))))))) v)))))))) := by
  cases n; cases y0 <;> exact pV7_eq _ _ _ _ _ _ _ _ _ _
def qV_s' : V_3 → V_5 → V_6 → V_8 → (Nat → Option AV) → D3 (Option AV → (PT AV → Bool) → Bool) := fun s m l t x x0 x1 x2 v k => pV3 x0 x1 x2 v s (fun u => k (.mk u m l t x))
def qV_s : D3 (Option AV → PT AV → (PT AV → Bool) → Bool) := fun x0 x1 x2 v t k => @PT.rec AV (fun _ => D3 (Option AV → (PT AV → Bool) → Bool)) qV_s' t x0 x1 x2 v k
def qV_m' : V_3 → V_5 → V_6 → V_8 → (Nat → Option AV) → D5 (Option AV → (PT AV → Bool) → Bool) := fun s m l t x x0 x1 x2 x3 x4 v k => pV5 x0 x1 x2 x3 x4 v m (fun u => k (.mk s u l t x))
def qV_m : D5 (Option AV → PT AV → (PT AV → Bool) → Bool) := fun x0 x1 x2 x3 x4 v t k => @PT.rec AV (fun _ => D5 (Option AV → (PT AV → Bool) → Bool)) qV_m' t x0 x1 x2 x3 x4 v k
def qV_l' : V_3 → V_5 → V_6 → V_8 → (Nat → Option AV) → D6 (Option AV → (PT AV → Bool) → Bool) := fun s m l t x x0 x1 x2 x3 x4 x5 v k => pV6 x0 x1 x2 x3 x4 x5 v l (fun u => k (.mk s m u t x))
def qV_l : D6 (Option AV → PT AV → (PT AV → Bool) → Bool) := fun x0 x1 x2 x3 x4 x5 v t k => @PT.rec AV (fun _ => D6 (Option AV → (PT AV → Bool) → Bool)) qV_l' t x0 x1 x2 x3 x4 x5 v k
def qV_t' : V_3 → V_5 → V_6 → V_8 → (Nat → Option AV) → D8 (Option AV → (PT AV → Bool) → Bool) := fun s m l t x x0 x1 x2 x3 x4 x5 x6 x7 v k => pV8 x0 x1 x2 x3 x4 x5 x6 x7 v t (fun u => k (.mk s m l u x))
def qV_t : D8 (Option AV → PT AV → (PT AV → Bool) → Bool) := fun x0 x1 x2 x3 x4 x5 x6 x7 v t k => @PT.rec AV (fun _ => D8 (Option AV → (PT AV → Bool) → Bool)) qV_t' t x0 x1 x2 x3 x4 x5 x6 x7 v k
def putV : Pos → Option AV → PT AV → (PT AV → Bool) → Bool := @Pos.rec (fun _ => Option AV → PT AV → (PT AV → Bool) → Bool) qV_s qV_m qV_l qV_t (fun n v t k => @PT.rec AV (fun _ => Bool) (fun s m l t x => k (.mk s m l t (fun m => bif Nat.beq m n then v else x m))) t)
theorem putV_eq (p : Pos) (v : Option AV) (t : PT AV) (k : PT AV → Bool) : putV p v t k = k (PT.put p v t) := by
  cases t
  cases p
  case s => exact pV3_eq _ _ _ _ _ _
  case m => exact pV5_eq _ _ _ _ _ _ _ _
  case l => exact pV6_eq _ _ _ _ _ _ _ _ _
  case t => exact pV8_eq _ _ _ _ _ _ _ _ _ _ _
  case x => rfl
end

section
def sB1 : DD → B_1 → B_0 := @DD.rec (fun _ => B_1 → B_0) (fun n => @N4.rec B_0 (fun _ => B_0) (fun a _ _ _ => a) n) (fun n => @N4.rec B_0 (fun _ => B_0) (fun _ b _ _ => b) n) (fun n => @N4.rec B_0 (fun _ => B_0) (fun _ _ c _ => c) n) (fun n => @N4.rec B_0 (fun _ => B_0) (fun _ _ _ d => d) n)
theorem sB1_eq (x : DD) (n : B_1) : sB1 x n = sel x n := by cases n; cases x <;> rfl
def sB2 : DD → B_2 → B_1 := @DD.rec (fun _ => B_2 → B_1) (fun n => @N4.rec B_1 (fun _ => B_1) (fun a _ _ _ => a) n) (fun n => @N4.rec B_1 (fun _ => B_1) (fun _ b _ _ => b) n) (fun n => @N4.rec B_1 (fun _ => B_1) (fun _ _ c _ => c) n) (fun n => @N4.rec B_1 (fun _ => B_1) (fun _ _ _ d => d) n)
theorem sB2_eq (x : DD) (n : B_2) : sB2 x n = sel x n := by cases n; cases x <;> rfl
def sB3 : DD → B_3 → B_2 := @DD.rec (fun _ => B_3 → B_2) (fun n => @N4.rec B_2 (fun _ => B_2) (fun a _ _ _ => a) n) (fun n => @N4.rec B_2 (fun _ => B_2) (fun _ b _ _ => b) n) (fun n => @N4.rec B_2 (fun _ => B_2) (fun _ _ c _ => c) n) (fun n => @N4.rec B_2 (fun _ => B_2) (fun _ _ _ d => d) n)
theorem sB3_eq (x : DD) (n : B_3) : sB3 x n = sel x n := by cases n; cases x <;> rfl
def sB4 : DD → B_4 → B_3 := @DD.rec (fun _ => B_4 → B_3) (fun n => @N4.rec B_3 (fun _ => B_3) (fun a _ _ _ => a) n) (fun n => @N4.rec B_3 (fun _ => B_3) (fun _ b _ _ => b) n) (fun n => @N4.rec B_3 (fun _ => B_3) (fun _ _ c _ => c) n) (fun n => @N4.rec B_3 (fun _ => B_3) (fun _ _ _ d => d) n)
theorem sB4_eq (x : DD) (n : B_4) : sB4 x n = sel x n := by cases n; cases x <;> rfl
def sB5 : DD → B_5 → B_4 := @DD.rec (fun _ => B_5 → B_4) (fun n => @N4.rec B_4 (fun _ => B_4) (fun a _ _ _ => a) n) (fun n => @N4.rec B_4 (fun _ => B_4) (fun _ b _ _ => b) n) (fun n => @N4.rec B_4 (fun _ => B_4) (fun _ _ c _ => c) n) (fun n => @N4.rec B_4 (fun _ => B_4) (fun _ _ _ d => d) n)
theorem sB5_eq (x : DD) (n : B_5) : sB5 x n = sel x n := by cases n; cases x <;> rfl
def sB6 : DD → B_6 → B_5 := @DD.rec (fun _ => B_6 → B_5) (fun n => @N4.rec B_5 (fun _ => B_5) (fun a _ _ _ => a) n) (fun n => @N4.rec B_5 (fun _ => B_5) (fun _ b _ _ => b) n) (fun n => @N4.rec B_5 (fun _ => B_5) (fun _ _ c _ => c) n) (fun n => @N4.rec B_5 (fun _ => B_5) (fun _ _ _ d => d) n)
theorem sB6_eq (x : DD) (n : B_6) : sB6 x n = sel x n := by cases n; cases x <;> rfl
def sB7 : DD → B_7 → B_6 := @DD.rec (fun _ => B_7 → B_6) (fun n => @N4.rec B_6 (fun _ => B_6) (fun a _ _ _ => a) n) (fun n => @N4.rec B_6 (fun _ => B_6) (fun _ b _ _ => b) n) (fun n => @N4.rec B_6 (fun _ => B_6) (fun _ _ c _ => c) n) (fun n => @N4.rec B_6 (fun _ => B_6) (fun _ _ _ d => d) n)
theorem sB7_eq (x : DD) (n : B_7) : sB7 x n = sel x n := by cases n; cases x <;> rfl
def sB8 : DD → B_8 → B_7 := @DD.rec (fun _ => B_8 → B_7) (fun n => @N4.rec B_7 (fun _ => B_7) (fun a _ _ _ => a) n) (fun n => @N4.rec B_7 (fun _ => B_7) (fun _ b _ _ => b) n) (fun n => @N4.rec B_7 (fun _ => B_7) (fun _ _ c _ => c) n) (fun n => @N4.rec B_7 (fun _ => B_7) (fun _ _ _ d => d) n)
theorem sB8_eq (x : DD) (n : B_8) : sB8 x n = sel x n := by cases n; cases x <;> rfl
def gB_s' : B_3 → B_5 → B_6 → B_8 → (Nat → Option Blk) → D3 ((Option Blk → Bool) → Bool) := fun s _ _ _ _ x0 x1 x2 k => k (sB1 x2 (sB2 x1 (sB3 x0 s)))
def gB_s : D3 (PT Blk → (Option Blk → Bool) → Bool) := fun x0 x1 x2 t k => @PT.rec Blk (fun _ => D3 ((Option Blk → Bool) → Bool)) gB_s' t x0 x1 x2 k
def gB_m' : B_3 → B_5 → B_6 → B_8 → (Nat → Option Blk) → D5 ((Option Blk → Bool) → Bool) := fun _ m _ _ _ x0 x1 x2 x3 x4 k => k (sB1 x4 (sB2 x3 (sB3 x2 (sB4 x1 (sB5 x0 m)))))
def gB_m : D5 (PT Blk → (Option Blk → Bool) → Bool) := fun x0 x1 x2 x3 x4 t k => @PT.rec Blk (fun _ => D5 ((Option Blk → Bool) → Bool)) gB_m' t x0 x1 x2 x3 x4 k
def gB_l' : B_3 → B_5 → B_6 → B_8 → (Nat → Option Blk) → D6 ((Option Blk → Bool) → Bool) := fun _ _ l _ _ x0 x1 x2 x3 x4 x5 k => k (sB1 x5 (sB2 x4 (sB3 x3 (sB4 x2 (sB5 x1 (sB6 x0 l))))))
def gB_l : D6 (PT Blk → (Option Blk → Bool) → Bool) := fun x0 x1 x2 x3 x4 x5 t k => @PT.rec Blk (fun _ => D6 ((Option Blk → Bool) → Bool)) gB_l' t x0 x1 x2 x3 x4 x5 k
def gB_t' : B_3 → B_5 → B_6 → B_8 → (Nat → Option Blk) → D8 ((Option Blk → Bool) → Bool) := fun _ _ _ t _ x0 x1 x2 x3 x4 x5 x6 x7 k => k (sB1 x7 (sB2 x6 (sB3 x5 (sB4 x4 (sB5 x3 (sB6 x2 (sB7 x1 (sB8 x0 t))))))))
def gB_t : D8 (PT Blk → (Option Blk → Bool) → Bool) := fun x0 x1 x2 x3 x4 x5 x6 x7 t k => @PT.rec Blk (fun _ => D8 ((Option Blk → Bool) → Bool)) gB_t' t x0 x1 x2 x3 x4 x5 x6 x7 k
def getB : Pos → PT Blk → (Option Blk → Bool) → Bool := @Pos.rec (fun _ => PT Blk → (Option Blk → Bool) → Bool) gB_s gB_m gB_l gB_t (fun n t k => @PT.rec Blk (fun _ => Bool) (fun _ _ _ _ x => k (x n)) t)
theorem getB_eq (p : Pos) (t : PT Blk) (k : Option Blk → Bool) : getB p t k = k (PT.get p t) := by
  cases t
  cases p
  case s => show k (sB1 _ (sB2 _ (sB3 _ _))) = _; simp only [PT.get, sB1_eq, sB2_eq, sB3_eq]
  case m => show k (sB1 _ (sB2 _ (sB3 _ (sB4 _ (sB5 _ _))))) = _; simp only [PT.get, sB1_eq, sB2_eq, sB3_eq, sB4_eq, sB5_eq]
  case l => show k (sB1 _ (sB2 _ (sB3 _ (sB4 _ (sB5 _ (sB6 _ _)))))) = _; simp only [PT.get, sB1_eq, sB2_eq, sB3_eq, sB4_eq, sB5_eq, sB6_eq]
  case t => show k (sB1 _ (sB2 _ (sB3 _ (sB4 _ (sB5 _ (sB6 _ (sB7 _ (sB8 _ _)))))))) = _; simp only [PT.get, sB1_eq, sB2_eq, sB3_eq, sB4_eq, sB5_eq, sB6_eq, sB7_eq, sB8_eq]
  case x => rfl
def pB1a' : B_0 → B_0 → B_0 → B_0 → Option Blk → (B_1 → Bool) → Bool := fun _ b c d  v k => k (.mk v b c d)
def pB1a : Option Blk → B_1 → (B_1 → Bool) → Bool := fun  v n k => @N4.rec B_0 (fun _ => Option Blk → (B_1 → Bool) → Bool) pB1a' n  v k
def pB1b' : B_0 → B_0 → B_0 → B_0 → Option Blk → (B_1 → Bool) → Bool := fun a _ c d  v k => k (.mk a v c d)
def pB1b : Option Blk → B_1 → (B_1 → Bool) → Bool := fun  v n k => @N4.rec B_0 (fun _ => Option Blk → (B_1 → Bool) → Bool) pB1b' n  v k
def pB1c' : B_0 → B_0 → B_0 → B_0 → Option Blk → (B_1 → Bool) → Bool := fun a b _ d  v k => k (.mk a b v d)
def pB1c : Option Blk → B_1 → (B_1 → Bool) → Bool := fun  v n k => @N4.rec B_0 (fun _ => Option Blk → (B_1 → Bool) → Bool) pB1c' n  v k
def pB1d' : B_0 → B_0 → B_0 → B_0 → Option Blk → (B_1 → Bool) → Bool := fun a b c _  v k => k (.mk a b c v)
def pB1d : Option Blk → B_1 → (B_1 → Bool) → Bool := fun  v n k => @N4.rec B_0 (fun _ => Option Blk → (B_1 → Bool) → Bool) pB1d' n  v k
def pB1 : DD → Option Blk → B_1 → (B_1 → Bool) → Bool := @DD.rec (fun _ => Option Blk → B_1 → (B_1 → Bool) → Bool) pB1a pB1b pB1c pB1d
theorem pB1_eq (y0 : DD) (v : Option Blk) (n : B_1) (k : B_1 → Bool) : pB1 y0 v n k = k (upd y0 n v) := by
  cases n; cases y0 <;> rfl
def pB2a' : B_1 → B_1 → B_1 → B_1 → DD → Option Blk → (B_2 → Bool) → Bool := fun a b c d x0 v k => pB1 x0 v a (fun u => k (.mk u b c d))
def pB2a : DD → Option Blk → B_2 → (B_2 → Bool) → Bool := fun x0 v n k => @N4.rec B_1 (fun _ => DD → Option Blk → (B_2 → Bool) → Bool) pB2a' n x0 v k
def pB2b' : B_1 → B_1 → B_1 → B_1 → DD → Option Blk → (B_2 → Bool) → Bool := fun a b c d x0 v k => pB1 x0 v b (fun u => k (.mk a u c d))
def pB2b : DD → Option Blk → B_2 → (B_2 → Bool) → Bool := fun x0 v n k => @N4.rec B_1 (fun _ => DD → Option Blk → (B_2 → Bool) → Bool) pB2b' n x0 v k
def pB2c' : B_1 → B_1 → B_1 → B_1 → DD → Option Blk → (B_2 → Bool) → Bool := fun a b c d x0 v k => pB1 x0 v c (fun u => k (.mk a b u d))
def pB2c : DD → Option Blk → B_2 → (B_2 → Bool) → Bool := fun x0 v n k => @N4.rec B_1 (fun _ => DD → Option Blk → (B_2 → Bool) → Bool) pB2c' n x0 v k
def pB2d' : B_1 → B_1 → B_1 → B_1 → DD → Option Blk → (B_2 → Bool) → Bool := fun a b c d x0 v k => pB1 x0 v d (fun u => k (.mk a b c u))
def pB2d : DD → Option Blk → B_2 → (B_2 → Bool) → Bool := fun x0 v n k => @N4.rec B_1 (fun _ => DD → Option Blk → (B_2 → Bool) → Bool) pB2d' n x0 v k
def pB2 : D2 (Option Blk → B_2 → (B_2 → Bool) → Bool) := @DD.rec (fun _ => DD → Option Blk → B_2 → (B_2 → Bool) → Bool) pB2a pB2b pB2c pB2d
theorem pB2_eq (y0 y1 : DD) (v : Option Blk) (n : B_2) (k : B_2 → Bool) : pB2 y0 y1 v n k = k (upd y0 n (upd y1 (sel y0 n) v)) := by
  cases n; cases y0 <;> exact pB1_eq _ _ _ _
def pB3a' : B_2 → B_2 → B_2 → B_2 → D2 (Option Blk → (B_3 → Bool) → Bool) := fun a b c d x0 x1 v k => pB2 x0 x1 v a (fun u => k (.mk u b c d))
def pB3a : D2 (Option Blk → B_3 → (B_3 → Bool) → Bool) := fun x0 x1 v n k => @N4.rec B_2 (fun _ => D2 (Option Blk → (B_3 → Bool) → Bool)) pB3a' n x0 x1 v k
def pB3b' : B_2 → B_2 → B_2 → B_2 → D2 (Option Blk → (B_3 → Bool) → Bool) := fun a b c d x0 x1 v k => pB2 x0 x1 v b (fun u => k (.mk a u c d))
def pB3b : D2 (Option Blk → B_3 → (B_3 → Bool) → Bool) := fun x0 x1 v n k => @N4.rec B_2 (fun _ => D2 (Option Blk → (B_3 → Bool) → Bool)) pB3b' n x0 x1 v k
def pB3c' : B_2 → B_2 → B_2 → B_2 → D2 (Option Blk → (B_3 → Bool) → Bool) := fun a b c d x0 x1 v k => pB2 x0 x1 v c (fun u => k (.mk a b u d))
def pB3c : D2 (Option Blk → B_3 → (B_3 → Bool) → Bool) := fun x0 x1 v n k => @N4.rec B_2 (fun _ => D2 (Option Blk → (B_3 → Bool) → Bool)) pB3c' n x0 x1 v k
def pB3d' : B_2 → B_2 → B_2 → B_2 → D2 (Option Blk → (B_3 → Bool) → Bool) := fun a b c d x0 x1 v k => pB2 x0 x1 v d (fun u => k (.mk a b c u))
def pB3d : D2 (Option Blk → B_3 → (B_3 → Bool) → Bool) := fun x0 x1 v n k => @N4.rec B_2 (fun _ => D2 (Option Blk → (B_3 → Bool) → Bool)) pB3d' n x0 x1 v k
def pB3 : D3 (Option Blk → B_3 → (B_3 → Bool) → Bool) := @DD.rec (fun _ => D2 (Option Blk → B_3 → (B_3 → Bool) → Bool)) pB3a pB3b pB3c pB3d
theorem pB3_eq (y0 y1 y2 : DD) (v : Option Blk) (n : B_3) (k : B_3 → Bool) : pB3 y0 y1 y2 v n k = k (upd y0 n (upd y1 (sel y0 n) (upd y2 (sel y1 (sel y0 n)) v))) := by
  cases n; cases y0 <;> exact pB2_eq _ _ _ _ _
def pB4a' : B_3 → B_3 → B_3 → B_3 → D3 (Option Blk → (B_4 → Bool) → Bool) := fun a b c d x0 x1 x2 v k => pB3 x0 x1 x2 v a (fun u => k (.mk u b c d))
def pB4a : D3 (Option Blk → B_4 → (B_4 → Bool) → Bool) := fun x0 x1 x2 v n k => @N4.rec B_3 (fun _ => D3 (Option Blk → (B_4 → Bool) → Bool)) pB4a' n x0 x1 x2 v k
def pB4b' : B_3 → B_3 → B_3 → B_3 → D3 (Option Blk → (B_4 → Bool) → Bool) := fun a b c d x0 x1 x2 v k => pB3 x0 x1 x2 v b (fun u => k (.mk a u c d))
def pB4b : D3 (Option Blk → B_4 → (B_4 → Bool) → Bool) := fun x0 x1 x2 v n k => @N4.rec B_3 (fun _ => D3 (Option Blk → (B_4 → Bool) → Bool)) pB4b' n x0 x1 x2 v k
def pB4c' : B_3 → B_3 → B_3 → B_3 → D3 (Option Blk → (B_4 → Bool) → Bool) := fun a b c d x0 x1 x2 v k => pB3 x0 x1 x2 v c (fun u => k (.mk a b u d))
def pB4c : D3 (Option Blk → B_4 → (B_4 → Bool) → Bool) := fun x0 x1 x2 v n k => @N4.rec B_3 (fun _ => D3 (Option Blk → (B_4 → Bool) → Bool)) pB4c' n x0 x1 x2 v k
def pB4d' : B_3 → B_3 → B_3 → B_3 → D3 (Option Blk → (B_4 → Bool) → Bool) := fun a b c d x0 x1 x2 v k => pB3 x0 x1 x2 v d (fun u => k (.mk a b c u))
def pB4d : D3 (Option Blk → B_4 → (B_4 → Bool) → Bool) := fun x0 x1 x2 v n k => @N4.rec B_3 (fun _ => D3 (Option Blk → (B_4 → Bool) → Bool)) pB4d' n x0 x1 x2 v k
def pB4 : D4 (Option Blk → B_4 → (B_4 → Bool) → Bool) := @DD.rec (fun _ => D3 (Option Blk → B_4 → (B_4 → Bool) → Bool)) pB4a pB4b pB4c pB4d
theorem pB4_eq (y0 y1 y2 y3 : DD) (v : Option Blk) (n : B_4) (k : B_4 → Bool) : pB4 y0 y1 y2 y3 v n k = k (upd y0 n (upd y1 (sel y0 n) (upd y2 (sel y1 (sel y0 n)) (upd y3 (sel y2 (sel y1 (sel y0 n))) v)))) := by
  cases n; cases y0 <;> exact pB3_eq _ _ _ _ _ _
def pB5a' : B_4 → B_4 → B_4 → B_4 → D4 (Option Blk → (B_5 → Bool) → Bool) := fun a b c d x0 x1 x2 x3 v k => pB4 x0 x1 x2 x3 v a (fun u => k (.mk u b c d))
def pB5a : D4 (Option Blk → B_5 → (B_5 → Bool) → Bool) := fun x0 x1 x2 x3 v n k => @N4.rec B_4 (fun _ => D4 (Option Blk → (B_5 → Bool) → Bool)) pB5a' n x0 x1 x2 x3 v k
def pB5b' : B_4 → B_4 → B_4 → B_4 → D4 (Option Blk → (B_5 → Bool) → Bool) := fun a b c d x0 x1 x2 x3 v k => pB4 x0 x1 x2 x3 v b (fun u => k (.mk a u c d))
def pB5b : D4 (Option Blk → B_5 → (B_5 → Bool) → Bool) := fun x0 x1 x2 x3 v n k => @N4.rec B_4 (fun _ => D4 (Option Blk → (B_5 → Bool) → Bool)) pB5b' n x0 x1 x2 x3 v k
def pB5c' : B_4 → B_4 → B_4 → B_4 → D4 (Option Blk → (B_5 → Bool) → Bool) := fun a b c d x0 x1 x2 x3 v k => pB4 x0 x1 x2 x3 v c (fun u => k (.mk a b u d))
def pB5c : D4 (Option Blk → B_5 → (B_5 → Bool) → Bool) := fun x0 x1 x2 x3 v n k => @N4.rec B_4 (fun _ => D4 (Option Blk → (B_5 → Bool) → Bool)) pB5c' n x0 x1 x2 x3 v k
def pB5d' : B_4 → B_4 → B_4 → B_4 → D4 (Option Blk → (B_5 → Bool) → Bool) := fun a b c d x0 x1 x2 x3 v k => pB4 x0 x1 x2 x3 v d (fun u => k (.mk a b c u))
def pB5d : D4 (Option Blk → B_5 → (B_5 → Bool) → Bool) := fun x0 x1 x2 x3 v n k => @N4.rec B_4 (fun _ => D4 (Option Blk → (B_5 → Bool) → Bool)) pB5d' n x0 x1 x2 x3 v k
def pB5 : D5 (Option Blk → B_5 → (B_5 → Bool) → Bool) := @DD.rec (fun _ => D4 (Option Blk → B_5 → (B_5 → Bool) → Bool)) pB5a pB5b pB5c pB5d
theorem pB5_eq (y0 y1 y2 y3 y4 : DD) (v : Option Blk) (n : B_5) (k : B_5 → Bool) : pB5 y0 y1 y2 y3 y4 v n k = k (upd y0 n (upd y1 (sel y0 n) (upd y2 (sel y1 (sel y0 n)) (upd y3 (sel y2 (sel y1 (sel y0 n))) (upd y4 (sel y3 (sel y2 (sel y1 (sel y0 n)))) v))))) := by
  cases n; cases y0 <;> exact pB4_eq _ _ _ _ _ _ _
def pB6a' : B_5 → B_5 → B_5 → B_5 → D5 (Option Blk → (B_6 → Bool) → Bool) := fun a b c d x0 x1 x2 x3 x4 v k => pB5 x0 x1 x2 x3 x4 v a (fun u => k (.mk u b c d))
def pB6a : D5 (Option Blk → B_6 → (B_6 → Bool) → Bool) := fun x0 x1 x2 x3 x4 v n k => @N4.rec B_5 (fun _ => D5 (Option Blk → (B_6 → Bool) → Bool)) pB6a' n x0 x1 x2 x3 x4 v k
def pB6b' : B_5 → B_5 → B_5 → B_5 → D5 (Option Blk → (B_6 → Bool) → Bool) := fun a b c d x0 x1 x2 x3 x4 v k => pB5 x0 x1 x2 x3 x4 v b (fun u => k (.mk a u c d))
def pB6b : D5 (Option Blk → B_6 → (B_6 → Bool) → Bool) := fun x0 x1 x2 x3 x4 v n k => @N4.rec B_5 (fun _ => D5 (Option Blk → (B_6 → Bool) → Bool)) pB6b' n x0 x1 x2 x3 x4 v k
def pB6c' : B_5 → B_5 → B_5 → B_5 → D5 (Option Blk → (B_6 → Bool) → Bool) := fun a b c d x0 x1 x2 x3 x4 v k => pB5 x0 x1 x2 x3 x4 v c (fun u => k (.mk a b u d))
def pB6c : D5 (Option Blk → B_6 → (B_6 → Bool) → Bool) := fun x0 x1 x2 x3 x4 v n k => @N4.rec B_5 (fun _ => D5 (Option Blk → (B_6 → Bool) → Bool)) pB6c' n x0 x1 x2 x3 x4 v k
def pB6d' : B_5 → B_5 → B_5 → B_5 → D5 (Option Blk → (B_6 → Bool) → Bool) := fun a b c d x0 x1 x2 x3 x4 v k => pB5 x0 x1 x2 x3 x4 v d (fun u => k (.mk a b c u))
def pB6d : D5 (Option Blk → B_6 → (B_6 → Bool) → Bool) := fun x0 x1 x2 x3 x4 v n k => @N4.rec B_5 (fun _ => D5 (Option Blk → (B_6 → Bool) → Bool)) pB6d' n x0 x1 x2 x3 x4 v k
def pB6 : D6 (Option Blk → B_6 → (B_6 → Bool) → Bool) := @DD.rec (fun _ => D5 (Option Blk → B_6 → (B_6 → Bool) → Bool)) pB6a pB6b pB6c pB6d
theorem pB6_eq (y0 y1 y2 y3 y4 y5 : DD) (v : Option Blk) (n : B_6) (k : B_6 → Bool) : pB6 y0 y1 y2 y3 y4 y5 v n k = k (upd y0 n (upd y1 (sel y0 n) (upd y2 (sel y1 (sel y0 n)) (upd y3 (sel y2 (sel y1 (sel y0 n))) (upd y4 (sel y3 (sel y2 (sel y1 (sel y0 n)))) (upd y5 (sel y4 (sel y3 (sel y2 (sel y1 (sel y0 n))))) v)))))) := by
  cases n; cases y0 <;> exact pB5_eq _ _ _ _ _ _ _ _
def pB7a' : B_6 → B_6 → B_6 → B_6 → D6 (Option Blk → (B_7 → Bool) → Bool) := fun a b c d x0 x1 x2 x3 x4 x5 v k => pB6 x0 x1 x2 x3 x4 x5 v a (fun u => k (.mk u b c d))
def pB7a : D6 (Option Blk → B_7 → (B_7 → Bool) → Bool) := fun x0 x1 x2 x3 x4 x5 v n k => @N4.rec B_6 (fun _ => D6 (Option Blk → (B_7 → Bool) → Bool)) pB7a' n x0 x1 x2 x3 x4 x5 v k
def pB7b' : B_6 → B_6 → B_6 → B_6 → D6 (Option Blk → (B_7 → Bool) → Bool) := fun a b c d x0 x1 x2 x3 x4 x5 v k => pB6 x0 x1 x2 x3 x4 x5 v b (fun u => k (.mk a u c d))
def pB7b : D6 (Option Blk → B_7 → (B_7 → Bool) → Bool) := fun x0 x1 x2 x3 x4 x5 v n k => @N4.rec B_6 (fun _ => D6 (Option Blk → (B_7 → Bool) → Bool)) pB7b' n x0 x1 x2 x3 x4 x5 v k
def pB7c' : B_6 → B_6 → B_6 → B_6 → D6 (Option Blk → (B_7 → Bool) → Bool) := fun a b c d x0 x1 x2 x3 x4 x5 v k => pB6 x0 x1 x2 x3 x4 x5 v c (fun u => k (.mk a b u d))
def pB7c : D6 (Option Blk → B_7 → (B_7 → Bool) → Bool) := fun x0 x1 x2 x3 x4 x5 v n k => @N4.rec B_6 (fun _ => D6 (Option Blk → (B_7 → Bool) → Bool)) pB7c' n x0 x1 x2 x3 x4 x5 v k
def pB7d' : B_6 → B_6 → B_6 → B_6 → D6 (Option Blk → (B_7 → Bool) → Bool) := fun a b c d x0 x1 x2 x3 x4 x5 v k => pB6 x0 x1 x2 x3 x4 x5 v d (fun u => k (.mk a b c u))
def pB7d : D6 (Option Blk → B_7 → (B_7 → Bool) → Bool) := fun x0 x1 x2 x3 x4 x5 v n k => @N4.rec B_6 (fun _ => D6 (Option Blk → (B_7 → Bool) → Bool)) pB7d' n x0 x1 x2 x3 x4 x5 v k
def pB7 : D7 (Option Blk → B_7 → (B_7 → Bool) → Bool) := @DD.rec (fun _ => D6 (Option Blk → B_7 → (B_7 → Bool) → Bool)) pB7a pB7b pB7c pB7d
theorem pB7_eq (y0 y1 y2 y3 y4 y5 y6 : DD) (v : Option Blk) (n : B_7) (k : B_7 → Bool) : pB7 y0 y1 y2 y3 y4 y5 y6 v n k = k (upd y0 n (upd y1 (sel y0 n) (upd y2 (sel y1 (sel y0 n)) (upd y3 (sel y2 (sel y1 (sel y0 n))) (upd y4 (sel y3 (sel y2 (sel y1 (sel y0 n)))) (upd y5 (sel y4 (sel y3 (sel y2 (sel y1 (sel y0 n))))) (upd y6 (sel y5 (sel y4 (sel y3 (sel y2 (sel y1 (sel y0 n)))))) v))))))) := by
  cases n; cases y0 <;> exact pB6_eq _ _ _ _ _ _ _ _ _
def pB8a' : B_7 → B_7 → B_7 → B_7 → D7 (Option Blk → (B_8 → Bool) → Bool) := fun a b c d x0 x1 x2 x3 x4 x5 x6 v k => pB7 x0 x1 x2 x3 x4 x5 x6 v a (fun u => k (.mk u b c d))
def pB8a : D7 (Option Blk → B_8 → (B_8 → Bool) → Bool) := fun x0 x1 x2 x3 x4 x5 x6 v n k => @N4.rec B_7 (fun _ => D7 (Option Blk → (B_8 → Bool) → Bool)) pB8a' n x0 x1 x2 x3 x4 x5 x6 v k
def pB8b' : B_7 → B_7 → B_7 → B_7 → D7 (Option Blk → (B_8 → Bool) → Bool) := fun a b c d x0 x1 x2 x3 x4 x5 x6 v k => pB7 x0 x1 x2 x3 x4 x5 x6 v b (fun u => k (.mk a u c d))
def pB8b : D7 (Option Blk → B_8 → (B_8 → Bool) → Bool) := fun x0 x1 x2 x3 x4 x5 x6 v n k => @N4.rec B_7 (fun _ => D7 (Option Blk → (B_8 → Bool) → Bool)) pB8b' n x0 x1 x2 x3 x4 x5 x6 v k
def pB8c' : B_7 → B_7 → B_7 → B_7 → D7 (Option Blk → (B_8 → Bool) → Bool) := fun a b c d x0 x1 x2 x3 x4 x5 x6 v k => pB7 x0 x1 x2 x3 x4 x5 x6 v c (fun u => k (.mk a b u d))
def pB8c : D7 (Option Blk → B_8 → (B_8 → Bool) → Bool) := fun x0 x1 x2 x3 x4 x5 x6 v n k => @N4.rec B_7 (fun _ => D7 (Option Blk → (B_8 → Bool) → Bool)) pB8c' n x0 x1 x2 x3 x4 x5 x6 v k
def pB8d' : B_7 → B_7 → B_7 → B_7 → D7 (Option Blk → (B_8 → Bool) → Bool) := fun a b c d x0 x1 x2 x3 x4 x5 x6 v k => pB7 x0 x1 x2 x3 x4 x5 x6 v d (fun u => k (.mk a b c u))
def pB8d : D7 (Option Blk → B_8 → (B_8 → Bool) → Bool) := fun x0 x1 x2 x3 x4 x5 x6 v n k => @N4.rec B_7 (fun _ => D7 (Option Blk → (B_8 → Bool) → Bool)) pB8d' n x0 x1 x2 x3 x4 x5 x6 v k
def pB8 : D8 (Option Blk → B_8 → (B_8 → Bool) → Bool) := @DD.rec (fun _ => D7 (Option Blk → B_8 → (B_8 → Bool) → Bool)) pB8a pB8b pB8c pB8d
theorem pB8_eq (y0 y1 y2 y3 y4 y5 y6 y7 : DD) (v : Option Blk) (n : B_8) (k : B_8 → Bool) : pB8 y0 y1 y2 y3 y4 y5 y6 y7 v n k = k (upd y0 n (upd y1 (sel y0 n) (upd y2 (sel y1 (sel y0 n)) (upd y3 (sel y2 (sel y1 (sel y0 n))) (upd y4 (sel y3 (sel y2 (sel y1 (sel y0 n)))) (upd y5 (sel y4 (sel y3 (sel y2 (sel y1 (sel y0 n))))) (upd y6 (sel y5 (sel y4 (sel y3 (sel y2 (sel y1 (sel y0 n)))))) (upd y7 (sel y6 (sel y5 (sel y4 (sel y3 (sel y2 (sel y1 (sel y0 n))))))) v)))))))) := by
  cases n; cases y0 <;> exact pB7_eq _ _ _ _ _ _ _ _ _ _
def qB_s' : B_3 → B_5 → B_6 → B_8 → (Nat → Option Blk) → D3 (Option Blk → (PT Blk → Bool) → Bool) := fun s m l t x x0 x1 x2 v k => pB3 x0 x1 x2 v s (fun u => k (.mk u m l t x))
def qB_s : D3 (Option Blk → PT Blk → (PT Blk → Bool) → Bool) := fun x0 x1 x2 v t k => @PT.rec Blk (fun _ => D3 (Option Blk → (PT Blk → Bool) → Bool)) qB_s' t x0 x1 x2 v k
def qB_m' : B_3 → B_5 → B_6 → B_8 → (Nat → Option Blk) → D5 (Option Blk → (PT Blk → Bool) → Bool) := fun s m l t x x0 x1 x2 x3 x4 v k => pB5 x0 x1 x2 x3 x4 v m (fun u => k (.mk s u l t x))
def qB_m : D5 (Option Blk → PT Blk → (PT Blk → Bool) → Bool) := fun x0 x1 x2 x3 x4 v t k => @PT.rec Blk (fun _ => D5 (Option Blk → (PT Blk → Bool) → Bool)) qB_m' t x0 x1 x2 x3 x4 v k
def qB_l' : B_3 → B_5 → B_6 → B_8 → (Nat → Option Blk) → D6 (Option Blk → (PT Blk → Bool) → Bool) := fun s m l t x x0 x1 x2 x3 x4 x5 v k => pB6 x0 x1 x2 x3 x4 x5 v l (fun u => k (.mk s m u t x))
def qB_l : D6 (Option Blk → PT Blk → (PT Blk → Bool) → Bool) := fun x0 x1 x2 x3 x4 x5 v t k => @PT.rec Blk (fun _ => D6 (Option Blk → (PT Blk → Bool) → Bool)) qB_l' t x0 x1 x2 x3 x4 x5 v k
def qB_t' : B_3 → B_5 → B_6 → B_8 → (Nat → Option Blk) → D8 (Option Blk → (PT Blk → Bool) → Bool) := fun s m l t x x0 x1 x2 x3 x4 x5 x6 x7 v k => pB8 x0 x1 x2 x3 x4 x5 x6 x7 v t (fun u => k (.mk s m l u x))
def qB_t : D8 (Option Blk → PT Blk → (PT Blk → Bool) → Bool) := fun x0 x1 x2 x3 x4 x5 x6 x7 v t k => @PT.rec Blk (fun _ => D8 (Option Blk → (PT Blk → Bool) → Bool)) qB_t' t x0 x1 x2 x3 x4 x5 x6 x7 v k
def putB : Pos → Option Blk → PT Blk → (PT Blk → Bool) → Bool := @Pos.rec (fun _ => Option Blk → PT Blk → (PT Blk → Bool) → Bool) qB_s qB_m qB_l qB_t (fun n v t k => @PT.rec Blk (fun _ => Bool) (fun s m l t x => k (.mk s m l t (fun m => bif Nat.beq m n then v else x m))) t)
theorem putB_eq (p : Pos) (v : Option Blk) (t : PT Blk) (k : PT Blk → Bool) : putB p v t k = k (PT.put p v t) := by
  cases t
  cases p
  case s => exact pB3_eq _ _ _ _ _ _
  case m => exact pB5_eq _ _ _ _ _ _ _ _
  case l => exact pB6_eq _ _ _ _ _ _ _ _ _
  case t => exact pB8_eq _ _ _ _ _ _ _ _ _ _ _
  case x => rfl
end

end
end Go.Abs
