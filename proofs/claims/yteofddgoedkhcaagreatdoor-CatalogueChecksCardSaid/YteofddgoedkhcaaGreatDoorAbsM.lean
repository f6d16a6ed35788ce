/- The abstract interpreter, part M: how code is made, and how it runs. -/
import Derived.Test.YteofddgoedkhcaaGreatDoorAbsL
namespace Go.Abs

/-- Equal values, where it can be seen. -/
def same1 : AV → AV → Bool
  | .bool a, .bool b => a == b
  | .int k a, .int k' b => if k = k' then decide (a = b) else false
  | .rng k a b, .rng k' c d => if k = k' then decide (a = c) && decide (b = d) else false
  | .str a, .str b => beqN a b
  | .nilp, .nilp => true
  | .nilsl, .nilsl => true
  | .nilmap, .nilmap => true
  | .nilfn, .nilfn => true
  | .nilifc, .nilifc => true
  | .ptr i a, .ptr j b => samePos i j && Nat.beq a b
  | .sl i a b c d e, .sl i' a' b' c' d' e' => samePos i i' && Nat.beq a a' && Nat.beq b b' && (c == c') && Nat.beq d d' && Nat.beq e e'
  | .fn (.func f) [] [], .fn (.func g) [] [] => Nat.beq f g
  | _, _ => false
where
  samePos : Pos → Pos → Bool
    | .h, .h => true
    | .o p, .o q => samePos p q
    | .i p, .i q => samePos p q
    | _, _ => false

def sameL : List AV → List AV → Bool
  | [], [] => true
  | a :: l, b :: m => same1 a b && sameL l m
  | _, _ => false

def same : AV → AV → Bool
  | .agg l, .agg m => sameL l m
  | a, b => same1 a b

/-! ### Running -/
def undefA : AV := .tup []

def ev (T : PT AV) : AX → AV
  | .t p => match PT.get p T with
    | some v => v
    | none => undefA
  | .c v => v

def putT (d : Option Pos) (v : AV) (T : PT AV) : PT AV := match d with
  | some p => PT.put p (some v) T
  | none => T

def wantA (T : PT AV) (g : Option (Pos × Bool)) : Option Bool := match g with
  | none => some true
  | some (p, want) => match PT.get p T with
    | some (.bool b) => some (b == want)
    | some (.tup []) => some false
    | none => some false
    | _ => none

/-- What a call of a function, of a yield, comes to. -/
abbrev CallR := Nat → List AV → AHeap → Pos → Option (AV × AHeap × Pos)
abbrev YieldR := Pos → List AV → AHeap → Pos → Option (AV × AHeap × Pos)

def opA (cf : CallR) (yf : YieldR) (e : AX → AV) (H : AHeap) (nx : Pos) (op : AOp) : Option (AV × AHeap × Pos) :=
  match op with
  | .call g args => match e g with
    | .fn (.func f) fs cs => cf f (fs ++ (args.map e ++ cs)) H nx
    | .yld id => yf id (args.map e) H nx
    | _ => none
  | .store n a x => match stA e H n a x with
    | some H' => some (undefA, H', nx)
    | none => none
  | .app n b s x => apA H nx n b (e s) (e x)
  | .load ag n a => match ldA e H (.load ag n a) with
    | some v => some (v, H, nx)
    | none => none
  | .slA len s x lo hi => match ldA e H (.slA len s x lo hi) with
    | some v => some (v, H, nx)
    | none => none
  | .b2s x => match ldA e H (.b2s x) with
    | some v => some (v, H, nx)
    | none => none
  | .new z => some (resA nx none, PT.put nx (some (.cells false z)) H, nx.succ)
  | .box x => match alA e (.box x) with
    | some (l, r) => some (resA nx r, PT.put nx (some (.cells false l)) H, nx.succ)
    | none => none
  | .mksl z len es ps => match alA e (.mksl z len es ps) with
    | some (l, r) => some (resA nx r, PT.put nx (some (.cells false l)) H, nx.succ)
    | none => none
  | .s2b x => match alA e (.s2b x) with
    | some (l, r) => some (resA nx r, PT.put nx (some (.cells false l)) H, nx.succ)
    | none => none
  | op => match puA e op with
    | some v => some (v, H, nx)
    | none => none

/-- Operations in the order of the text. -/
def seqA (cf : CallR) (yf : YieldR) : List AOper → PT AV → AHeap → Pos → Option (PT AV × AHeap × Pos)
  | [], T, H, nx => some (T, H, nx)
  | o :: os, T, H, nx => match wantA T o.guard with
    | some true => match opA cf yf (ev T) H nx o.op with
      | some (v, H', nx') => seqA cf yf os (putT o.dst v T) H' nx'
      | none => none
    | some false => seqA cf yf os (putT o.dst undefA T) H nx
    | none => none

def lookBack (e : AX → AV) (op : AOp) (v : AV) : Nat → List AHeap → Bool
  | 0, _ => true
  | _ + 1, [] => false
  | k + 1, S :: Ss => match ldA e S op with
    | some u => match same v u with
      | true => lookBack e op v k Ss
      | false => false
    | none => false

/-- Operations whose order is open, in the order that was chosen. -/
def drwA (cf : CallR) (yf : YieldR) : List (Nat × Nat × AOper) → List AHeap → PT AV → AHeap → Pos → Option (PT AV × AHeap × Pos)
  | [], _, T, H, nx => some (T, H, nx)
  | (s, k, o) :: os, Ss, T, H, nx => match wantA T o.guard with
    | some true => match opA cf yf (ev T) H nx o.op with
      | some (v, H', nx') => match s with
        | 1 => match lookBack (ev T) o.op v k Ss with
          | true => drwA cf yf os Ss (putT o.dst v T) H' nx'
          | false => none
        | 3 => drwA cf yf os (H :: Ss) (putT o.dst v T) H' nx'
        | _ => drwA cf yf os Ss (putT o.dst v T) H' nx'
      | none => none
    | some false => match s with
      | 3 => drwA cf yf os (H :: Ss) (putT o.dst undefA T) H nx
      | _ => drwA cf yf os Ss (putT o.dst undefA T) H nx
    | none => none

/-- How code is left. -/
inductive AEx where
  | normal
  | exit (id : Nat)
  | ret

structure St where
  T : PT AV
  D : List Pos
  H : AHeap
  nx : Pos

/-- A function: how many parameters, its results, its body. -/
inductive ARes where
  | tmp (p : Pos)
  | cell (p : Pos) (ag : Bool) (n : Nat)

structure AFn where
  res : List ARes
  body : AC

def bindT : List AV → Nat → PT AV → PT AV
  | [], _, T => T
  | v :: vs, n, T => bindT vs (n + 1) (PT.put (Pos.ofNat n) (some v) T)

def resOf (T : PT AV) (H : AHeap) : List ARes → Option (List AV)
  | [] => some []
  | .tmp p :: rs => match resOf T H rs with
    | some l => some (ev T (.t p) :: l)
    | none => none
  | .cell p ag n :: rs => match ldA (ev T) H (.load ag n (.t p)), resOf T H rs with
    | some v, some l => some (v :: l)
    | _, _ => none

def tupOf : List AV → AV
  | [v] => v
  | l => .tup l

def unmark : List Pos → AHeap → Option AHeap
  | [], H => some H
  | id :: D, H => match PT.get id H with
    | some .dfr => unmark D (PT.put id none H)
    | _ => none

def endFn (fn : AFn) (s : St) : Option (AV × AHeap × Pos) :=
  match unmark s.D s.H with
  | some H' => match resOf s.T H' fn.res with
    | some l => some (tupOf l, H', s.nx)
    | none => none
  | none => none

def setPs : List Pos → List AV → PT AV → Option (PT AV)
  | [], [], T => some T
  | p :: ps, v :: vs, T => setPs ps vs (PT.put p (some v) T)
  | _, _, _ => none

section
variable (fns : Nat → Option AFn) (sum : Nat → List AV → AHeap → Option AV)

abbrev ExecR := AC → Option Pos → St → Option (AEx × St)

def callA (ex : ExecR) : CallR := fun f args H nx =>
  match sum f args H with
  | some v => some (v, H, nx)
  | none => match fns f with
    | some fn => match ex fn.body none ⟨bindT args 0 .lf, [], H, nx⟩ with
      | some (.normal, s) => endFn fn s
      | some (.ret, s) => endFn fn s
      | _ => none
    | none => none

def yieldA (ex : ExecR) : YieldR := fun id args H nx =>
  match PT.get id H with
  | some (.loop true none T ps asg body) => match setPs ps args T with
    | some T' => match ex asg (some id) ⟨T', [], H, nx⟩ with
      | some (.normal, s1) => match PT.get id s1.H with
        | some (.loop true none T2 ps2 asg2 body2) => match ex body (some id) ⟨s1.T, s1.D, PT.put id (some (.loop false none T2 ps2 asg2 body2)) s1.H, s1.nx⟩ with
          | some (x, s2) => match s2.D, PT.get id s2.H with
            | [], some (.loop false none T3 ps3 asg3 body3) => match x with
              | .normal => some (.bool true, PT.put id (some (.loop true none T3 ps3 asg3 body3)) s2.H, s2.nx)
              | .ret => some (.bool false, PT.put id (some (.loop false (some none) T3 ps3 asg3 body3)) s2.H, s2.nx)
              | .exit i => some (.bool false, PT.put id (some (.loop false (some (some i)) T3 ps3 asg3 body3)) s2.H, s2.nx)
            | _, _ => none
          | none => none
        | _ => none
      | _ => none
    | none => none
  | _ => none

def execF (ex : ExecR) : ExecR := fun c rd s =>
  match c with
  | .skip => some (.normal, s)
  | .reg ops => match seqA (callA fns sum ex) (yieldA ex) ops s.T s.H s.nx with
    | some (T, H, nx) => some (.normal, ⟨T, s.D, H, nx⟩)
    | none => none
  | .drw ops => match drwA (callA fns sum ex) (yieldA ex) ops [] s.T s.H s.nx with
    | some (T, H, nx) => some (.normal, ⟨T, s.D, H, nx⟩)
    | none => none
  | .seq a b => match ex a rd s with
    | some (.normal, s') => ex b rd s'
    | r => r
  | .cond x a b => match ev s.T x with
    | .bool true => ex a rd s
    | .bool false => ex b rd s
    | _ => none
  | .block id a => match ex a rd s with
    | some (.exit i, s') => if Nat.beq i id then some (.normal, s') else some (.exit i, s')
    | r => r
  | .loop a => match ex a rd s with
    | some (.normal, s') => ex (.loop a) rd s'
    | r => r
  | .rng f ps asg body => match rd with
    | some _ => none
    | none =>
      match ev s.T f with
      | .fn (.func g) fs cs =>
        match callA fns sum ex g (fs ++ (.yld s.nx.succ :: cs)) (PT.put s.nx.succ (some (.loop true none s.T ps asg body)) (PT.put s.nx (some .dfr) s.H)) s.nx.succ.succ with
        | some (_, H, nx) => match PT.get s.nx.succ H with
          | some (.loop true none _ _ _ _) => some (.normal, ⟨s.T, s.nx :: s.D, PT.put s.nx.succ none H, nx⟩)
          | some (.loop false (some none) _ _ _ _) => some (.ret, ⟨s.T, s.nx :: s.D, PT.put s.nx.succ none H, nx⟩)
          | some (.loop false (some (some i)) _ _ _ _) => some (.exit i, ⟨s.T, s.nx :: s.D, PT.put s.nx.succ none H, nx⟩)
          | _ => none
        | none => none
      | _ => none
  | .exit id => some (.exit id, s)
  | .ret => some (.ret, s)
  | .bad => none

def exec (n : Nat) : ExecR := Nat.rec (fun _ _ _ => none) (fun _ ih => execF fns sum ih) n

theorem exec_zero : exec fns sum 0 = fun _ _ _ => none := rfl
theorem exec_succ (n : Nat) : exec fns sum (n + 1) = execF fns sum (exec fns sum n) := rfl

/-- A call at the top. -/
def top (n : Nat) (f : Nat) (args : List AV) (H : AHeap) (nx : Pos) : Option (AV × AHeap × Pos) := callA fns sum (exec fns sum n) f args H nx
end

/-! ### Making code -/
section
variable (P : Program) (gs : List Nat)

def cguard (ops : Array Oper) (g : Option (Nat × Bool)) : Option (Option (Pos × Bool)) := match g with
  | none => some none
  | some (j, want) => match (ops[j]?).bind (·.dst) with
    | some d => some (some (Pos.ofNat d, want))
    | none => none

def cdst (N : Nat) (d : Option Tmp) : Option (Option Pos) := match d with
  | none => some none
  | some d => if d < N then some (some (Pos.ofNat d)) else none

def coper (N : Nat) (ops : Array Oper) (o : Oper) : Option AOper :=
  match cdst N o.dst, cguard ops o.guard, cop P gs o with
  | some d, some g, some op => some ⟨d, g, op⟩
  | _, _, _ => none

def copers (N : Nat) (ops : Array Oper) : List Oper → Option (List AOper)
  | [] => some []
  | o :: os => match coper P gs N ops o, copers N ops os with
    | some a, some l => some (a :: l)
    | _, _ => none
end

/-- The sort of an operation. -/
def AOp.sort (o : AOp) : Nat := match o with
  | .load _ _ _ => 1
  | .slA _ _ _ _ _ => 1
  | .b2s _ => 1
  | .new _ => 2
  | .box _ => 2
  | .mksl _ _ _ _ => 2
  | .s2b _ => 2
  | .call _ _ => 3
  | .store _ _ _ => 3
  | .app _ _ _ _ => 3
  | .copy _ _ _ _ => 3
  | .mksz _ _ _ _ _ => 3
  | _ => 0

/-- Of each operation the set of those that surely come before it, as bits. -/
def edgeMask (ms : List Nat) (es : List Edge) : Nat :=
  es.foldl (fun s e => if Region.binds .any e && decide (e.on < ms.length) then s ||| 2 ^ e.on ||| ms.getD e.on 0 else s) 0

def masks : List Oper → List Nat → List Nat
  | [], ms => ms
  | o :: os, ms => masks os (ms ++ [edgeMask ms o.after.toList])

/-- The chosen order: whatever comes before the next operation of sort 3, then that. -/
def order (ms : List Nat) (sorts : List Nat) : List Nat :=
  let n := ms.length
  let es := (List.range n).filter fun i => sorts.getD i 0 == 3
  let go := es.foldl (fun (acc : List Nat) e =>
    let m := ms.getD e 0
    acc ++ ((List.range n).filter fun i => m.testBit i && !acc.contains i) ++ (if acc.contains e then [] else [e])) []
  go ++ (List.range n).filter fun i => !go.contains i

def AX.tm : AX → List Pos
  | .t p => [p]
  | .c _ => []

def otm : Option AX → List Pos
  | none => []
  | some x => x.tm

/-- The temporaries that an operation names. -/
def AOp.tms : AOp → List Pos
  | .mov x => x.tm
  | .pick c a b => c.tm ++ a.tm ++ b.tm
  | .new _ => []
  | .box x => x.tm
  | .build _ ps => ps.flatMap fun q => q.2.2.tm
  | .mksl _ _ _ ps => ps.flatMap fun q => q.2.2.tm
  | .load _ _ a => a.tm
  | .store _ a x => a.tm ++ x.tm
  | .nilchk x => x.tm
  | .bin _ _ _ x y => x.tm ++ y.tm
  | .un _ x => x.tm
  | .cvi _ x => x.tm
  | .cvs x => x.tm
  | .s2b x => x.tm
  | .b2s x => x.tm
  | .mkif _ x => x.tm
  | .mkfn _ fs cs => fs.flatMap AX.tm ++ cs.flatMap AX.tm
  | .slS _ x lo hi => x.tm ++ otm lo ++ otm hi
  | .slStr x lo hi => x.tm ++ otm lo ++ otm hi
  | .slA _ _ x lo hi => x.tm ++ otm lo ++ otm hi
  | .fadr _ x => x.tm
  | .fld _ _ _ x => x.tm
  | .ixS _ x i => x.tm ++ i.tm
  | .ixA _ _ x i => x.tm ++ i.tm
  | .ixv _ _ _ x i => x.tm ++ i.tm
  | .ixstr x i => x.tm ++ i.tm
  | .extr _ x => x.tm
  | .call g args => g.tm ++ args.flatMap AX.tm
  | .len _ x => x.tm
  | .cap x => x.tm
  | .app _ _ s x => s.tm ++ x.tm
  | .copy _ _ d x => d.tm ++ x.tm
  | .mksz _ _ _ l c => l.tm ++ c.tm
  | .bad => []

def AOper.tms (o : AOper) : List Pos := o.op.tms ++ (match o.guard with
    | some (p, _) => [p]
    | none => []) ++ o.dst.toList

/-- An operation in the chosen order: which it is, what surely comes before it (bits), its sort, how many states before it must be looked at, too. -/
structure Ent where
  i : Nat
  m : Nat
  s : Nat
  k : Nat
  o : AOper

/-- Does the one write what the other names? -/
def hits (d : Option Pos) (o : AOper) : Bool := match d with
  | none => false
  | some p => o.tms.any (same1.samePos p)

/-- May a stand before b for all orders? -/
def okPair (a b : Ent) : Bool :=
  let e := b.m.testBit a.i
  (if hits a.o.dst b.o then e else true) && (if hits b.o.dst a.o then e else true) && (if b.s = 3 then e else true) && !(a.m.testBit b.i) && !(Nat.beq a.i b.i)

def okAll : List Ent → List Ent → List Ent → Bool
  | [], _, _ => true
  | b :: rest, acc, acc3 => acc.all (fun a => okPair a b) && (if b.s = 1 then (acc3.drop b.k).all (fun a => b.m.testBit a.i) else true) &&
    okAll rest (b :: acc) (if b.s = 3 then b :: acc3 else acc3)

def edgesOK : List Oper → Nat → Bool
  | [], _ => true
  | o :: os, i => o.after.toList.all (fun e => !Region.binds .any e || decide (e.on < i)) && edgesOK os (i + 1)

/-- How many of the states before must be looked at. -/
def backs (ms sorts ord : List Nat) (i : Nat) : Nat :=
  let before := (ord.takeWhile (· != i)).filter fun j => sorts.getD j 0 == 3
  (before.reverse.takeWhile fun j => !(ms.getD i 0).testBit j).length

def ents (aos : List AOper) (ms sorts ord : List Nat) : List Nat → Option (List Ent)
  | [] => some []
  | i :: l => match aos[i]?, ents aos ms sorts ord l with
    | some a, some r => some (⟨i, ms.getD i 0, a.op.sort, (if a.op.sort = 1 then backs ms sorts ord i else 0), a⟩ :: r)
    | _, _ => none

def cdrw (P : Program) (gs : List Nat) (N : Nat) (ops : Array Oper) : Option AC :=
  match copers P gs N ops ops.toList with
  | some aos =>
    match ents aos (masks ops.toList []) (aos.map (·.op.sort)) (order (masks ops.toList []) (aos.map (·.op.sort))) (order (masks ops.toList []) (aos.map (·.op.sort))) with
    | some E => if okAll E [] [] && edgesOK ops.toList 0 && (List.range ops.size).all (fun i => E.any fun e => Nat.beq e.i i) then some (.drw (E.map fun e => (e.s, e.k, e.o))) else none
    | none => none
  | none => none

def cc (P : Program) (gs : List Nat) (N : Nat) : Code → Option AC
  | .skip => some .skip
  | .region _ ops draw => if draw then cdrw P gs N ops else (copers P gs N ops ops.toList).map .reg
  | .seq a b => match cc P gs N a, cc P gs N b with
    | some x, some y => some (.seq x y)
    | _, _ => none
  | .cond c a b => match cox gs c, cc P gs N a, cc P gs N b with
    | some t, some x, some y => some (.cond t x y)
    | _, _, _ => none
  | .block id a => (cc P gs N a).map (.block id)
  | .loop a => (cc P gs N a).map .loop
  | .rangeFunc f ps asg body => match cox gs f, cc P gs N asg, cc P gs N body with
    | some t, some x, some y => if ps.all (fun p => decide (p < N)) then some (.rng t (ps.toList.map Pos.ofNat) x y) else none
    | _, _, _ => none
  | .exit id => some (.exit id)
  | .ret => some .ret
  | .refuse _ => some .bad
  | _ => none

def cres (P : Program) : ResultVar → Option ARes
  | .tmp t => some (.tmp (Pos.ofNat t))
  | .cell a t => match agOf P t, szOf P t with
    | some ag, some n => some (.cell (Pos.ofNat a) ag n)
    | _, _ => none

def cfn (P : Program) (gs : List Nat) (fn : Func) : Option AFn :=
  match fn.body with
  | some c => match cc P gs fn.ntmps c, fn.results.toList.mapM (cres P) with
    | some b, some rs => if fn.name == "runtime.NumGoroutine" then none else some ⟨rs, b⟩
    | _, _ => none
  | none => none
end Go.Abs
