/- Annotated code and its quick run by parts: where the temporaries' values are known by their shape, what is reckoned is a plain term. -/
import Derived.Test.YtgcfdengoenboaaGreatDoorAbsX
namespace Go.Abs

/-- What a variable at a join is: a value, an integer of a kind, a truth value. -/
inductive VT where
  | v
  | i (k : IntKind)
  | b

/-- Operations with marks: of a region whose order is open the sort and how many states before are looked at; a mode; joins. -/
inductive SL where
  | nil
  | op (s k m : Nat) (o : AOper) (r : SL)
  | join (vs : List (Pos × VT)) (a r : SL)

/-- Code with joins: what is carried through, what is forgotten. -/
inductive SC where
  | skip
  | ops (l : SL)
  | drw (l : SL)
  | seq (a b : SC)
  | join (vs : List (Pos × VT)) (a : SC)
  | cond (x : AX) (a b : SC)
  | block (id : Nat) (vs : List (Pos × VT)) (a : SC)
  | loop (vs : List (Pos × VT)) (a : SC)
  | exit (id : Nat)
  | ret

/-- Short forms: an operation that stands by itself; a move. -/
abbrev SL.o (m : Nat) (d : Pos) (op : AOp) (r : SL) : SL := .op 0 0 m ⟨some d, none, op⟩ r
abbrev SL.v (d s : Pos) (r : SL) : SL := .op 0 0 0 ⟨some d, none, .mov (.t s)⟩ r

abbrev AOper.o (d : Pos) (op : AOp) : AOper := ⟨some d, none, op⟩
abbrev AOper.v (d s : Pos) : AOper := ⟨some d, none, .mov (.t s)⟩

def SL.r : SL → List AOper
  | .nil => []
  | .op _ _ _ o r => o :: r.r
  | .join _ a r => a.r ++ r.r
def SL.d : SL → List (Nat × Nat × AOper)
  | .nil => []
  | .op s k _ o r => (s, k, o) :: r.d
  | .join _ a r => a.d ++ r.d
def SC.er : SC → AC
  | .skip => .skip
  | .ops l => .reg l.r
  | .drw l => .drw l.d
  | .seq a b => .seq a.er b.er
  | .join _ a => a.er
  | .cond x a b => .cond x a.er b.er
  | .block id _ a => .block id a.er
  | .loop _ a => .loop a.er
  | .exit id => .exit id
  | .ret => .ret

/-- The temporaries that code writes. -/
def dsL : List AOper → List Pos
  | [] => []
  | o :: os => match o.dst with
    | some p => p :: dsL os
    | none => dsL os
def dsD : List (Nat × Nat × AOper) → List Pos
  | [] => []
  | (_, _, o) :: os => match o.dst with
    | some p => p :: dsD os
    | none => dsD os
def AC.ds : AC → List Pos
  | .reg ops => dsL ops
  | .drw ops => dsD ops
  | .seq a b => a.ds ++ b.ds
  | .cond _ a b => a.ds ++ b.ds
  | .block _ a => a.ds
  | .loop a => a.ds
  | _ => []

/-! ### What is run -/
noncomputable abbrev ptrV : AV → (Pos → Nat → Bool) → Bool := @AV.rec (fun _ => (Pos → Nat → Bool) → Bool) (fun _ => Unit) (fun _ _ => false) (fun _ _ _ => false) (fun _ _ _ _ => false) (fun _ _ => false) (fun _ _ => false) (fun _ => false) (fun id off k => k id off) (fun _ => false) (fun _ _ _ _ _ _ _ => false) (fun _ => false) (fun _ _ _ _ _ _ => false) (fun _ _ => false) (fun _ _ => false) (fun _ => false) (fun _ _ _ _ => false) (fun _ => false) (fun _ _ _ => false) (fun _ _ _ => false) (fun _ => false) () (fun _ _ _ _ => ())
noncomputable abbrev intV : AV → (IntKind → Int → Bool) → Bool := @AV.rec (fun _ => (IntKind → Int → Bool) → Bool) (fun _ => Unit) (fun _ _ => false) (fun q z k => k q z) (fun _ _ _ _ => false) (fun _ _ => false) (fun _ _ => false) (fun _ => false) (fun _ _ _ => false) (fun _ => false) (fun _ _ _ _ _ _ _ => false) (fun _ => false) (fun _ _ _ _ _ _ => false) (fun _ _ => false) (fun _ _ => false) (fun _ => false) (fun _ _ _ _ => false) (fun _ => false) (fun _ _ _ => false) (fun _ _ _ => false) (fun _ => false) () (fun _ _ _ _ => ())
noncomputable abbrev boolV : AV → (Bool → Bool) → Bool := @AV.rec (fun _ => (Bool → Bool) → Bool) (fun _ => Unit) (fun b k => k b) (fun _ _ _ => false) (fun _ _ _ _ => false) (fun _ _ => false) (fun _ _ => false) (fun _ => false) (fun _ _ _ => false) (fun _ => false) (fun _ _ _ _ _ _ _ => false) (fun _ => false) (fun _ _ _ _ _ _ => false) (fun _ _ => false) (fun _ _ => false) (fun _ => false) (fun _ _ _ _ => false) (fun _ => false) (fun _ _ _ => false) (fun _ _ _ => false) (fun _ => false) () (fun _ _ _ _ => ())
noncomputable abbrev aggV : AV → (List AV → Bool) → Bool := @AV.rec (fun _ => (List AV → Bool) → Bool) (fun _ => Unit) (fun _ _ => false) (fun _ _ _ => false) (fun _ _ _ _ => false) (fun _ _ => false) (fun _ _ => false) (fun _ => false) (fun _ _ _ => false) (fun _ => false) (fun _ _ _ _ _ _ _ => false) (fun _ => false) (fun _ _ _ _ _ _ => false) (fun _ _ => false) (fun _ _ => false) (fun _ => false) (fun _ _ _ _ => false) (fun _ => false) (fun l _ k => k l) (fun _ _ _ => false) (fun _ => false) () (fun _ _ _ _ => ())
noncomputable abbrev tupV : AV → (List AV → Bool) → Bool := @AV.rec (fun _ => (List AV → Bool) → Bool) (fun _ => Unit) (fun _ _ => false) (fun _ _ _ => false) (fun _ _ _ _ => false) (fun _ _ => false) (fun _ _ => false) (fun _ => false) (fun _ _ _ => false) (fun _ => false) (fun _ _ _ _ _ _ _ => false) (fun _ => false) (fun _ _ _ _ _ _ => false) (fun _ _ => false) (fun _ _ => false) (fun _ => false) (fun _ _ _ _ => false) (fun _ => false) (fun _ _ _ => false) (fun l _ k => k l) (fun _ => false) () (fun _ _ _ _ => ())
noncomputable abbrev strV : AV → (List Nat → Bool) → Bool := @AV.rec (fun _ => (List Nat → Bool) → Bool) (fun _ => Unit) (fun _ _ => false) (fun _ _ _ => false) (fun _ _ _ _ => false) (fun l k => k l) (fun _ _ => false) (fun _ => false) (fun _ _ _ => false) (fun _ => false) (fun _ _ _ _ _ _ _ => false) (fun _ => false) (fun _ _ _ _ _ _ => false) (fun _ _ => false) (fun _ _ => false) (fun _ => false) (fun _ _ _ _ => false) (fun _ => false) (fun _ _ _ => false) (fun _ _ _ => false) (fun _ => false) () (fun _ _ _ _ => ())
noncomputable abbrev slV : AV → (Pos → Nat → Nat → Bool → Nat → Nat → Bool) → Bool := @AV.rec (fun _ => (Pos → Nat → Nat → Bool → Nat → Nat → Bool) → Bool) (fun _ => Unit) (fun _ _ => false) (fun _ _ _ => false) (fun _ _ _ _ => false) (fun _ _ => false) (fun _ _ => false) (fun _ => false) (fun _ _ _ => false) (fun _ => false) (fun id off len ex cap es k => k id off len ex cap es) (fun _ => false) (fun _ _ _ _ _ _ => false) (fun _ _ => false) (fun _ _ => false) (fun _ => false) (fun _ _ _ _ => false) (fun _ => false) (fun _ _ _ => false) (fun _ _ _ => false) (fun _ => false) () (fun _ _ _ _ => ())
noncomputable abbrev grdV : AV → (Bool → Bool) → Bool → Bool := @AV.rec (fun _ => (Bool → Bool) → Bool → Bool) (fun _ => Unit) (fun b k _ => k b) (fun _ _ _ _ => false) (fun _ _ _ _ _ => false) (fun _ _ _ => false) (fun _ _ _ => false) (fun _ _ => false) (fun _ _ _ _ => false) (fun _ _ => false) (fun _ _ _ _ _ _ _ _ => false) (fun _ _ => false) (fun _ _ _ _ _ _ _ => false) (fun _ _ _ => false) (fun _ _ _ => false) (fun _ _ => false) (fun _ _ _ _ _ => false) (fun _ _ => false) (fun _ _ _ _ => false) (fun l _ _ s => @List.rec AV (fun _ => Bool) s (fun _ _ _ => false) l) (fun _ _ => false) () (fun _ _ _ _ => ())
noncomputable def lenV : AV → (Int → Bool) → Bool := @AV.rec (fun _ => (Int → Bool) → Bool) (fun _ => Unit) (fun _ _ => false) (fun _ _ _ => false) (fun _ _ _ _ => false) (fun _ _ => false) (fun _ _ => false) (fun _ => false) (fun _ _ _ => false) (fun k => k (.ofNat 0)) (fun _ _ len _ _ _ k => k (.ofNat len)) (fun _ => false) (fun _ _ _ _ _ _ => false) (fun _ _ => false) (fun _ _ => false) (fun _ => false) (fun _ _ _ _ => false) (fun _ => false) (fun _ _ _ => false) (fun _ _ _ => false) (fun _ => false) () (fun _ _ _ _ => ())

noncomputable abbrev iteS (b : Bool) (x y : Bool) : Bool := @Bool.rec (fun _ => Bool) y x b
noncomputable abbrev eqN (a b : Nat) (x : Bool) : Bool := @Bool.rec (fun _ => Bool) false x (Nat.beq a b)
abbrev lt1 {α : Type} (x : α) (f : α → Bool) : Bool := f x
def jn {α : Type} (f : α) (g : α → Bool) : Bool := g f
noncomputable def lp {α : Type} (z : α) (s : α → α) (n : Nat) : α := @Nat.rec (fun _ => α) z (fun _ ih => s ih) n
noncomputable def frcZ (z : Int) (k : Int → Bool) : Bool := @Int.rec (fun _ => Bool) (fun n => @Nat.rec (fun _ => Bool) (k (.ofNat 0)) (fun m _ => k (.ofNat (Nat.succ m))) n) (fun n => @Nat.rec (fun _ => Bool) (k (.negSucc 0)) (fun m _ => k (.negSucc (Nat.succ m))) n) z
noncomputable def forB (b : Bool) (k : Bool → Bool) : Bool := @Bool.rec (fun _ => Bool) (k false) (k true) b
/-- The kind of an integer that is asked for. -/
noncomputable abbrev inV (q : IntKind) (v : AV) (k : Int → Bool) : Bool := intV v fun q' z => @Bool.rec (fun _ => Bool) false (k z) (Nat.beq (kno q') (kno q))
/-- Sums and their like. -/
noncomputable def fitZ (q : IntKind) (n : Nat) : Int := @Bool.rec (fun _ => Int) (q.wrap (.ofNat n)) (.ofNat n) (Nat.ble n (kmax q))
noncomputable def addZ (q : IntKind) (a b : Int) : Int := @Int.rec (fun _ => Int) (fun n => @Int.rec (fun _ => Int) (fun m => fitZ q (Nat.add n m)) (fun _ => q.wrap (a + b)) b) (fun _ => q.wrap (a + b)) a
noncomputable def subZ (q : IntKind) (a b : Int) : Int := @Int.rec (fun _ => Int) (fun n => @Int.rec (fun _ => Int) (fun m => @Bool.rec (fun _ => Int) (q.wrap (a - b)) (.ofNat (Nat.sub n m)) (and (Nat.ble m n) (Nat.ble n (kmax q)))) (fun _ => q.wrap (a - b)) b) (fun _ => q.wrap (a - b)) a
noncomputable def mulZ (q : IntKind) (a b : Int) : Int := @Int.rec (fun _ => Int) (fun n => @Int.rec (fun _ => Int) (fun m => fitZ q (Nat.mul n m)) (fun _ => q.wrap (a * b)) b) (fun _ => q.wrap (a * b)) a
noncomputable def quoZ (q : IntKind) (a b : Int) : Int := @Int.rec (fun _ => Int) (fun n => @Int.rec (fun _ => Int) (fun m => fitZ q (Nat.div n m)) (fun _ => q.wrap (a.tdiv b)) b) (fun _ => q.wrap (a.tdiv b)) a
noncomputable def remZ (a b : Int) : Int := @Int.rec (fun _ => Int) (fun n => @Int.rec (fun _ => Int) (fun m => .ofNat (Nat.mod n m)) (fun _ => a.tmod b) b) (fun _ => a.tmod b) a
noncomputable def cvZ (q : IntKind) (a : Int) : Int := @Int.rec (fun _ => Int) (fun n => fitZ q n) (fun _ => q.wrap a) a
noncomputable def andZ (q : IntKind) (a b : Int) : Int := bits .and q a b
noncomputable def orZ (q : IntKind) (a b : Int) : Int := bits .or q a b
noncomputable def xorZ (q : IntKind) (a b : Int) : Int := bits .xor q a b
noncomputable def andNotZ (q : IntKind) (a b : Int) : Int := bits .andNot q a b
noncomputable def shlZ (q : IntKind) (a : Int) (s : Nat) : Int := q.wrap (a * 2 ^ (min s q.bits))
noncomputable def shrZ (q : IntKind) (a : Int) (s : Nat) : Int := @Int.rec (fun _ => Int) (fun n => .ofNat (Nat.div n (Nat.pow 2 (min s q.bits)))) (fun _ => a.fdiv (2 ^ (min s q.bits))) a
noncomputable def eqZ (a b : Int) : Bool := @Int.rec (fun _ => Bool) (fun n => @Int.rec (fun _ => Bool) (fun m => Nat.beq n m) (fun _ => false) b) (fun n => @Int.rec (fun _ => Bool) (fun _ => false) (fun m => Nat.beq n m) b) a
noncomputable def ltZ (a b : Int) : Bool := @Int.rec (fun _ => Bool) (fun n => @Int.rec (fun _ => Bool) (fun m => Nat.ble (Nat.succ n) m) (fun _ => false) b) (fun n => @Int.rec (fun _ => Bool) (fun _ => true) (fun m => Nat.ble (Nat.succ m) n) b) a
noncomputable def leZ (a b : Int) : Bool := @Int.rec (fun _ => Bool) (fun n => @Int.rec (fun _ => Bool) (fun m => Nat.ble n m) (fun _ => false) b) (fun n => @Int.rec (fun _ => Bool) (fun _ => true) (fun m => Nat.ble m n) b) a
noncomputable def notB (b : Bool) : Bool := @Bool.rec (fun _ => Bool) true false b
noncomputable def nzI (w : Int) (x : Bool) : Bool := @Int.rec (fun _ => Bool) (fun n => @Nat.rec (fun _ => Bool) false (fun _ _ => x) n) (fun _ => x) w
noncomputable def natI (w : Int) (k : Nat → Bool) : Bool := @Int.rec (fun _ => Bool) k (fun _ => false) w
noncomputable def idxI (z : Int) (len : Nat) (k : Nat → Bool) : Bool := @Int.rec (fun _ => Bool) (fun n => @Bool.rec (fun _ => Bool) false (k n) (Nat.ble (Nat.succ n) len)) (fun _ => false) z
noncomputable def cndB (b x y : Bool) : Bool := @Bool.rec (fun _ => Bool) y x b
noncomputable def cndZ (b : Bool) (x y : Int) : Int := @Bool.rec (fun _ => Int) y x b
noncomputable def cndV (b : Bool) (x y : AV) : AV := @Bool.rec (fun _ => AV) y x b

/-- A cell, some cells, of a list. -/
noncomputable abbrev nthV (n : Nat) (l : List AV) (k : AV → Bool) : Bool :=
  @Nat.rec (fun _ => List AV → (AV → Bool) → Bool) (fun l k => @List.rec AV (fun _ => Bool) false (fun a _ _ => k a) l) (fun _ ih l k => @List.rec AV (fun _ => Bool) false (fun _ t _ => ih t k) l) n l k
def CL : Nat → Type
  | 0 => Bool
  | n + 1 => AV → CL n
noncomputable def takeC (n : Nat) : List AV → CL n → Bool :=
  @Nat.rec (fun n => List AV → CL n → Bool) (fun _ k => k) (fun _ ih l k => @List.rec AV (fun _ => Bool) false (fun a t _ => ih t (k a)) l) n
def curL : (n : Nat) → (List AV → Bool) → CL n
  | 0, f => f []
  | n + 1, f => fun a => curL n fun l => f (a :: l)

noncomputable def ld1' : List AV → Nat → (AV → Bool) → Bool := fun l off k => nthR l off k
noncomputable def ld1 (id : Pos) (off : Nat) (H : AHeap) (k : AV → Bool) : Bool := getB id H fun r => blkK r fun _ l => nthR l off k
noncomputable def ldL (id : Pos) (off n : Nat) (H : AHeap) (k : List AV → Bool) : Bool := getB id H fun r => blkK r fun _ l => dropR l off fun m => takeR m n k
noncomputable def ldC (n : Nat) (id : Pos) (off : Nat) (H : AHeap) (k : CL n) : Bool := getB id H fun r => blkK r fun _ l => dropR l off fun m => takeC n m k
noncomputable def stV (n : Nat) (id : Pos) (off : Nat) (v : AV) (H : AHeap) (k : AHeap → Bool) : Bool :=
  getB id H fun r => blkK r fun ro l => @Bool.rec (fun _ => Bool) (cellsK v fun xs => allOneK xs fun _ => andK (Nat.beq (lenR xs) n) fun _ => putLK l off xs fun l' => putB id (some (.cells false l')) H k) false ro
noncomputable def nwL (l : List AV) (H : AHeap) (nx : Pos) (k : AHeap → Pos → Bool) : Bool := putB nx (some (.cells false l)) H fun H' => succK nx fun n' => k H' n'
noncomputable def nwV (v : AV) (H : AHeap) (nx : Pos) (k : AHeap → Pos → Bool) : Bool := cellsK v fun l => nwL l H nx k
/-- Parts put into their places. -/
noncomputable def fillV (ps : List (Nat × Nat × AV)) (z : List AV) (k : List AV → Bool) : Bool :=
  @List.rec (Nat × Nat × AV) (fun _ => List AV → (List AV → Bool) → Bool) (fun z k => k z)
    (fun q _ ih z k => cellsK q.2.2 fun xs => andK (Nat.beq (lenR xs) q.2.1) fun _ => putLK z q.1 xs fun z' => ih z' k) ps z k
noncomputable def nilV (v : AV) (k : AV → Bool) : Bool := optK (nilchkA v) k
noncomputable def nthS (l : List Nat) (z : Int) (k : Nat → Bool) : Bool := natI z fun i => nthNR l i k
noncomputable def slSV (s : Nat) (v : AV) (lo hi : Option AV) (k : AV → Bool) : Bool := optK (slSA s v lo hi) k
noncomputable def slStrV (v : AV) (lo hi : Option AV) (k : AV → Bool) : Bool := optK (slStrA v lo hi) k
noncomputable def genV (op : AOp) (H : AHeap) (nx : Pos) (k : AV → AHeap → Pos → Bool) : Bool := opK noC noY .lf H nx op k
noncomputable def dynV (dyn : CallK) (g : AV) (l : List AV) (H : AHeap) (nx : Pos) (k : AV → AHeap → Pos → Bool) : Bool :=
  fnK g (fun f fs cs => appK l cs fun m => appK fs m fun a => dyn f a H nx k) fun _ => false
noncomputable def lokV (op : AOp) (v : AV) (q : Nat) (Ss : List AHeap) (x : Bool) : Bool := lookK .lf op v q Ss fun _ => x

/-! ### The marks read -/
noncomputable abbrev evE (E : PT AV) (x : AX) (K : AV → Bool) : Bool := @AX.rec (fun _ => Bool) (fun p => @Option.rec AV (fun _ => Bool) false K (getR p E)) K x
noncomputable abbrev evO (E : PT AV) (x : Option AX) (K : Option AV → Bool) : Bool := @Option.rec AX (fun _ => Bool) (K none) (fun x => evE E x fun v => K (some v)) x
noncomputable abbrev evsE (E : PT AV) (xs : List AX) (K : List AV → Bool) : Bool := @List.rec AX (fun _ => (List AV → Bool) → Bool) (fun K => K []) (fun x _ ih K => evE E x fun v => ih fun l => K (v :: l)) xs K
noncomputable abbrev evpE (E : PT AV) (ps : List (Nat × Nat × AX)) (K : List (Nat × Nat × AV) → Bool) : Bool :=
  @List.rec (Nat × Nat × AX) (fun _ => (List (Nat × Nat × AV) → Bool) → Bool) (fun K => K []) (fun q _ ih K => evE E q.2.2 fun v => ih fun l => K ((q.1, q.2.1, v) :: l)) ps K
/-- What an operand is known to be from here on. -/
abbrev rfE (E : PT AV) (x : AX) (v : AV) : PT AV := match x with
  | .t p => PT.put p (some v) E
  | .c _ => E
abbrev ptD (d : Option Pos) (v : AV) (E : PT AV) : PT AV := match d with
  | some p => PT.put p (some v) E
  | none => E
def killE : List Pos → PT AV → PT AV
  | [], E => E
  | p :: ps, E => killE ps (PT.put p none E)
abbrev KE := PT AV → AHeap → Pos → Bool
def Cur : List (Pos × VT) → Type
  | [] => AHeap → Pos → Bool
  | (_, .v) :: l => AV → Cur l
  | (_, .i _) :: l => Int → Cur l
  | (_, .b) :: l => Bool → Cur l
def absE : (l : List (Pos × VT)) → PT AV → KE → Cur l
  | [], E, f => f E
  | (p, .v) :: l, E, f => fun v => absE l (PT.put p (some v) E) f
  | (p, .i q) :: l, E, f => fun z => absE l (PT.put p (some (.int q z)) E) f
  | (p, .b) :: l, E, f => fun b => absE l (PT.put p (some (.bool b)) E) f
noncomputable def appE : (l : List (Pos × VT)) → PT AV → Cur l → AHeap → Pos → Bool
  | [], _, c, H, nx => c H nx
  | (p, .v) :: l, E, c, H, nx => evE E (.t p) fun v => appE l E (c v) H nx
  | (p, .i q) :: l, E, c, H, nx => evE E (.t p) fun v => inV q v fun z => appE l E (c z) H nx
  | (p, .b) :: l, E, c, H, nx => evE E (.t p) fun v => boolV v fun b => appE l E (c b) H nx
/-- The same, numbers reckoned. -/
noncomputable def appF : (l : List (Pos × VT)) → PT AV → Cur l → AHeap → Pos → Bool
  | [], _, c, H, nx => c H nx
  | (p, .v) :: l, E, c, H, nx => evE E (.t p) fun v => appF l E (c v) H nx
  | (p, .i q) :: l, E, c, H, nx => evE E (.t p) fun v => inV q v fun z => frcZ z fun z => appF l E (c z) H nx
  | (p, .b) :: l, E, c, H, nx => evE E (.t p) fun v => boolV v fun b => forB b fun b => appF l E (c b) H nx

/-- Operands as they are. -/
def AX.cl (E : PT AV) (x : AX) : AX := .c (ev E x)
def AOp.cl (E : PT AV) : AOp → AOp
  | .mov x => .mov (x.cl E)
  | .pick c a b => .pick (c.cl E) (a.cl E) (b.cl E)
  | .new z => .new z
  | .box x => .box (x.cl E)
  | .build z ps => .build z (ps.map fun q => (q.1, q.2.1, q.2.2.cl E))
  | .mksl z ln es ps => .mksl z ln es (ps.map fun q => (q.1, q.2.1, q.2.2.cl E))
  | .load ag n a => .load ag n (a.cl E)
  | .store n a x => .store n (a.cl E) (x.cl E)
  | .nilchk x => .nilchk (x.cl E)
  | .bin op ek ks x y => .bin op ek ks (x.cl E) (y.cl E)
  | .un op x => .un op (x.cl E)
  | .cvi k x => .cvi k (x.cl E)
  | .cvs x => .cvs (x.cl E)
  | .s2b x => .s2b (x.cl E)
  | .b2s x => .b2s (x.cl E)
  | .mkif t x => .mkif t (x.cl E)
  | .mkfn f fs cs => .mkfn f (fs.map (·.cl E)) (cs.map (·.cl E))
  | .slS s x lo hi => .slS s (x.cl E) (lo.map (·.cl E)) (hi.map (·.cl E))
  | .slStr x lo hi => .slStr (x.cl E) (lo.map (·.cl E)) (hi.map (·.cl E))
  | .slA n s x lo hi => .slA n s (x.cl E) (lo.map (·.cl E)) (hi.map (·.cl E))
  | .fadr off x => .fadr off (x.cl E)
  | .fld ag off n x => .fld ag off n (x.cl E)
  | .ixS s x i => .ixS s (x.cl E) (i.cl E)
  | .ixA n s x i => .ixA n s (x.cl E) (i.cl E)
  | .ixv ag n s x i => .ixv ag n s (x.cl E) (i.cl E)
  | .ixstr x i => .ixstr (x.cl E) (i.cl E)
  | .extr i x => .extr i (x.cl E)
  | .call _ _ => .bad
  | .len k x => .len k (x.cl E)
  | .cap x => .cap (x.cl E)
  | .app n b s x => .app n b (s.cl E) (x.cl E)
  | .copy n b d x => .copy n b (d.cl E) (x.cl E)
  | .ext q xs => .ext q (xs.map (·.cl E))
  | .bad => .bad
/-- Are all operands known? -/
noncomputable abbrev allE (E : PT AV) (xs : List Pos) (K : Bool) : Bool := @List.rec Pos (fun _ => Bool) K (fun p _ ih => @Option.rec AV (fun _ => Bool) false (fun _ => ih) (getR p E)) xs
end Go.Abs

namespace Go.Abs
section
variable (ck dyn : CallK)
abbrev KOE := PT AV → AV → AHeap → Pos → Bool

def kdN (m : Nat) : IntKind := match m with
  | 1 => .i8
  | 2 => .i16
  | 3 => .i32
  | 4 => .i64
  | 5 => .u8
  | 6 => .u16
  | 7 => .u32
  | _ => .u64

/-- Comparisons of values whose shape is not known. -/
noncomputable def binB (op : BinOp) (ek : EqK) (ks : List Nat) (a b : AV) (k : Bool → Bool) : Bool := binK op ek ks a b fun v => boolV v k

noncomputable abbrev intsE (op : BinOp) (q : IntKind) (z w : Int) (K : AV → Bool) : Bool := match op with
  | .add => K (.int q (addZ q z w))
  | .sub => K (.int q (subZ q z w))
  | .mul => K (.int q (mulZ q z w))
  | .quo => nzI w (K (.int q (quoZ q z w)))
  | .rem => nzI w (K (.int q (remZ z w)))
  | .and => K (.int q (andZ q z w))
  | .or => K (.int q (orZ q z w))
  | .xor => K (.int q (xorZ q z w))
  | .andNot => K (.int q (andNotZ q z w))
  | .shl => natI w fun s => K (.int q (shlZ q z s))
  | .shr => natI w fun s => K (.int q (shrZ q z s))
  | .eql => K (.bool (eqZ z w))
  | .neq => K (.bool (notB (eqZ z w)))
  | .lss => K (.bool (ltZ z w))
  | .leq => K (.bool (leZ z w))
  | .gtr => K (.bool (ltZ w z))
  | .geq => K (.bool (leZ w z))

noncomputable abbrev genE (op : AOp) (E : PT AV) (H : AHeap) (nx : Pos) (K : KOE) : Bool := allE E op.tms (genV (op.cl E) H nx fun v H nx => K E v H nx)

noncomputable abbrev opE (m : Nat) (op : AOp) (E : PT AV) (H : AHeap) (nx : Pos) (K : KOE) : Bool := match op with
  | .mov x => evE E x fun v => K E v H nx
  | .pick c a b => evE E c fun cv => boolV cv fun q => evE E a fun x => evE E b fun y => match m with
    | 0 => K E (cndV q x y) H nx
    | 20 => boolV x fun x => boolV y fun y => K E (.bool (cndB q x y)) H nx
    | m => inV (kdN m) x fun x => inV (kdN m) y fun y => K E (.int (kdN m) (cndZ q x y)) H nx
  | .bin op ek ks x y => match m with
    | 0 => evE E x fun a => evE E y fun b => binK op ek ks a b fun v => K E v H nx
    | 20 => evE E x fun a => evE E y fun b => binB op ek ks a b fun r => K E (.bool r) H nx
    | m => evE E x fun a => inV (kdN m) a fun z => evE E y fun b => match op with
      | .shl => intV b fun q w => intsE .shl (kdN m) z w fun v => K (rfE (rfE E x (.int (kdN m) z)) y (.int q w)) v H nx
      | .shr => intV b fun q w => intsE .shr (kdN m) z w fun v => K (rfE (rfE E x (.int (kdN m) z)) y (.int q w)) v H nx
      | op => inV (kdN m) b fun w => intsE op (kdN m) z w fun v => K (rfE (rfE E x (.int (kdN m) z)) y (.int (kdN m) w)) v H nx
  | .un op x => match m with
    | 20 => match op with
      | .not => evE E x fun a => boolV a fun b => K (rfE E x (.bool b)) (.bool (notB b)) H nx
      | _ => false
    | 0 => genE (.un op x) E H nx K
    | m => match op with
      | .neg => evE E x fun a => inV (kdN m) a fun z => K (rfE E x (.int (kdN m) z)) (.int (kdN m) (subZ (kdN m) 0 z)) H nx
      | _ => false
  | .cvi q x => evE E x fun a => intV a fun q' z => K (rfE E x (.int q' z)) (.int q (cvZ q z)) H nx
  | .load ag n x => evE E x fun a => ptrV a fun id off => match ag with
    | false => ld1 id off H fun v => K (rfE E x (.ptr id off)) v H nx
    | true => match m with
      | 0 => ldL id off n H fun l => K (rfE E x (.ptr id off)) (.agg l) H nx
      | _ => ldC n id off H (curL n fun l => K (rfE E x (.ptr id off)) (.agg l) H nx)
  | .store n a x => evE E a fun p => evE E x fun v => ptrV p fun id off => stV n id off v H fun H' => K (rfE E a (.ptr id off)) undefA H' nx
  | .new z => nwL z H nx fun H' nx' => K E (.ptr nx 0) H' nx'
  | .box x => evE E x fun v => nwV v H nx fun H' nx' => K E (.ptr nx 0) H' nx'
  | .build z ps => evpE E ps fun l => fillV l z fun r => K E (.agg r) H nx
  | .mksl z len es ps => evpE E ps fun l => fillV l z fun r => nwL r H nx fun H' nx' => K E (.sl nx 0 len true len es) H' nx'
  | .nilchk x => match m with
    | 0 => evE E x fun v => nilV v fun v => K E v H nx
    | _ => evE E x fun v => ptrV v fun id off => K (rfE E x (.ptr id off)) (.ptr id off) H nx
  | .mkif t x => evE E x fun v => K E (.ifc t v) H nx
  | .mkfn f fs cs => evsE E fs fun a => evsE E cs fun b => K E (.fn f a b) H nx
  | .slS s x lo hi => evE E x fun v => evO E lo fun l => evO E hi fun h => slSV s v l h fun r => K E r H nx
  | .slStr x lo hi => evE E x fun v => evO E lo fun l => evO E hi fun h => slStrV v l h fun r => K E r H nx
  | .fadr off x => evE E x fun v => ptrV v fun id o => K (rfE E x (.ptr id o)) (.ptr id (Nat.add o off)) H nx
  | .fld ag off n x => match ag with
    | false => evE E x fun v => aggV v fun l => nthV off l fun v => K (rfE E x (.agg l)) v H nx
    | true => genE (.fld ag off n x) E H nx K
  | .ixS s x ix => evE E x fun v => slV v fun id off len ex cap es => evE E ix fun i => intV i fun q z => eqN es s (idxI z len fun i => K (rfE (rfE E x (.sl id off len ex cap es)) ix (.int q z)) (.ptr id (Nat.add off (Nat.mul i s))) H nx)
  | .ixA n s x ix => evE E x fun v => ptrV v fun id o => evE E ix fun i => intV i fun q z => idxI z n fun i => K (rfE (rfE E x (.ptr id o)) ix (.int q z)) (.ptr id (Nat.add o (Nat.mul i s))) H nx
  | .ixstr x ix => evE E x fun v => strV v fun l => evE E ix fun i => intV i fun q z => nthS l z fun b => K (rfE (rfE E x (.str l)) ix (.int q z)) (.int .u8 (.ofNat b)) H nx
  | .extr i x => evE E x fun v => tupV v fun l => nthV i l fun v => K (rfE E x (.tup l)) v H nx
  | .call g args => match g with
    | .c (.fn (.func f) [] []) => evsE E args fun l => ck f l H nx fun v H' nx' => K E v H' nx'
    | g => evE E g fun gv => evsE E args fun l => dynV dyn gv l H nx fun v H' nx' => K E v H' nx'
  | .len q x => match q with
    | 1 => evE E x fun v => lenV v fun z => K E (.int .i64 z) H nx
    | 2 => evE E x fun v => strV v fun l => K (rfE E x (.str l)) (.int .i64 (.ofNat (lenN l))) H nx
    | _ => false
  | .app n b s x => evE E s fun s => evE E x fun x => apK H nx n b s x fun v H' nx' => K E v H' nx'
  | op => genE op E H nx K

/-- No operation of sort 3. -/
def SL.no3 : SL → Bool
  | .nil => true
  | .op s _ _ _ r => match s with
    | 3 => false
    | _ => r.no3
  | .join _ a r => and a.no3 r.no3

abbrev KSE := PT AV → Option (List AHeap) → AHeap → Pos → Bool
abbrev pushE (s : Nat) (H : AHeap) (Ss : Option (List AHeap)) : Option (List AHeap) := match s with
  | 3 => match Ss with
    | some l => some (H :: l)
    | none => none
  | _ => Ss
noncomputable abbrev lokE (s k : Nat) (op : AOp) (E : PT AV) (v : AV) (Ss : Option (List AHeap)) (x : Bool) : Bool := match s with
  | 1 => match k with
    | 0 => x
    | k + 1 => match Ss with
      | some l => allE E op.tms (lokV (op.cl E) v (k + 1) l x)
      | none => false
  | _ => x
noncomputable abbrev grdE (g : Option (Pos × Bool)) (E : PT AV) (K0 K1 : PT AV → Bool) : Bool := match g with
  | none => K1 E
  | some (p, true) => evE E (.t p) fun v => grdV v (fun b => iteS b (K1 (PT.put p (some (.bool true)) E)) (K0 (PT.put p (some (.bool false)) E))) (K0 E)
  | some (p, false) => evE E (.t p) fun v => grdV v (fun b => iteS b (K0 (PT.put p (some (.bool true)) E)) (K1 (PT.put p (some (.bool false)) E))) (K0 E)

noncomputable abbrev opsE (l : SL) : PT AV → Option (List AHeap) → AHeap → Pos → KSE → Bool :=
  @SL.rec (fun _ => PT AV → Option (List AHeap) → AHeap → Pos → KSE → Bool)
    (fun E Ss H nx K => K E Ss H nx)
    (fun s k m o _ ih E Ss H nx K => grdE o.guard E (fun E => ih (ptD o.dst undefA E) (pushE s H Ss) H nx K)
      (fun E => opE ck dyn m o.op E H nx fun E v H' nx' => lokE s k o.op E v Ss (ih (ptD o.dst v E) (pushE s H Ss) H' nx' K)))
    (fun vs a _ iha ihr E Ss H nx K => jn (absE vs (killE (dsL a.r) E) fun E' H' nx' => ihr E' (@Bool.rec (fun _ => Option (List AHeap)) none Ss a.no3) H' nx' K) (fun j => iha E Ss H nx fun E' _ H' nx' => appE vs E' j H' nx')) l

abbrev KXE := Nat → PT AV → AHeap → Pos → Bool
noncomputable abbrev cmp (fuel : Nat) (c : SC) : PT AV → AHeap → Pos → KE → KXE → KE → Bool :=
  @SC.rec (fun _ => PT AV → AHeap → Pos → KE → KXE → KE → Bool)
    (fun E H nx KN _ _ => KN E H nx)
    (fun l E H nx KN _ _ => opsE ck dyn l E (some []) H nx fun E _ H nx => KN E H nx)
    (fun l E H nx KN _ _ => opsE ck dyn l E (some []) H nx fun E _ H nx => KN E H nx)
    (fun _ _ iha ihb E H nx KN KX KR => iha E H nx (fun E H nx => ihb E H nx KN KX KR) KX KR)
    (fun vs a iha E H nx KN KX KR => jn (absE vs (killE a.er.ds E) KN) (fun j => iha E H nx (fun E' H nx => appE vs E' j H nx) KX KR))
    (fun x _ _ iha ihb E H nx KN KX KR => evE E x fun v => boolV v fun b => iteS b (iha E H nx KN KX KR) (ihb E H nx KN KX KR))
    (fun id vs a iha E H nx KN KX KR => jn (absE vs (killE a.er.ds E) KN) (fun j => iha E H nx (fun E' H nx => appE vs E' j H nx) (fun i E' H nx => @Bool.rec (fun _ => Bool) (KX i E' H nx) (appE vs E' j H nx) (Nat.beq i id)) KR))
    (fun vs a iha E H nx _ KX KR => appF vs E (lp (absE vs (killE a.er.ds E) fun _ _ _ => false) (fun ih => absE vs (killE a.er.ds E) fun E' H nx => iha E' H nx (fun E'' H nx => appF vs E'' ih H nx) KX KR) fuel) H nx)
    (fun i E H nx _ KX _ => KX i E H nx)
    (fun E H nx _ _ KR => KR E H nx) c

/-- The end of a function. -/
noncomputable abbrev resE (rs : List ARes) (E : PT AV) (H : AHeap) (K : List AV → Bool) : Bool :=
  @List.rec ARes (fun _ => (List AV → Bool) → Bool) (fun K => K [])
    (fun r _ ih K => match r with
      | .tmp p => evE E (.t p) fun v => ih fun l => K (v :: l)
      | .cell p ag n => evE E (.t p) fun a => ptrV a fun id off => match ag with
        | false => ld1 id off H fun v => ih fun l => K (v :: l)
        | true => ldL id off n H fun m => ih fun l => K (.agg m :: l)) rs K
abbrev tupE (l : List AV) : AV := match l with
  | [v] => v
  | l => .tup l
noncomputable abbrev endE (rs : List ARes) (k : AV → AHeap → Pos → Bool) : KE := fun E H nx => resE rs E H fun l => k (tupE l) H nx
noncomputable abbrev funE (fuel : Nat) (rs : List ARes) (c : SC) (l : List AV) (H : AHeap) (nx : Pos) (k : AV → AHeap → Pos → Bool) : Bool :=
  cmp ck dyn fuel c (bindT l 0 .lf) H nx (endE rs k) (fun _ _ _ _ => false) (endE rs k)
end

/-- Functions that are known, others by the other. -/
noncomputable abbrev ckL (l : List (Nat × CallK)) (d : CallK) : CallK := fun g a H nx k =>
  @List.rec (Nat × CallK) (fun _ => Bool) (d g a H nx k) (fun q _ ih => @Bool.rec (fun _ => Bool) ih (q.2 g a H nx k) (Nat.beq g q.1)) l

/-! ### By the number of arguments -/
noncomputable abbrev ar0 (F : AHeap → Pos → KO → Bool) : CallK := fun _ t0 H nx k => @List.rec AV (fun _ => Bool) (F H nx k) (fun _ _ _ => false) t0
noncomputable abbrev ar1 (F : AV → AHeap → Pos → KO → Bool) : CallK := fun _ t0 H nx k => @List.rec AV (fun _ => Bool) false (fun a0 t1 _ => @List.rec AV (fun _ => Bool) (F a0 H nx k) (fun _ _ _ => false) t1) t0
noncomputable abbrev ar2 (F : AV → AV → AHeap → Pos → KO → Bool) : CallK := fun _ t0 H nx k => @List.rec AV (fun _ => Bool) false (fun a0 t1 _ => @List.rec AV (fun _ => Bool) false (fun a1 t2 _ => @List.rec AV (fun _ => Bool) (F a0 a1 H nx k) (fun _ _ _ => false) t2) t1) t0
noncomputable abbrev ar3 (F : AV → AV → AV → AHeap → Pos → KO → Bool) : CallK := fun _ t0 H nx k => @List.rec AV (fun _ => Bool) false (fun a0 t1 _ => @List.rec AV (fun _ => Bool) false (fun a1 t2 _ => @List.rec AV (fun _ => Bool) false (fun a2 t3 _ => @List.rec AV (fun _ => Bool) (F a0 a1 a2 H nx k) (fun _ _ _ => false) t3) t2) t1) t0
noncomputable abbrev ar4 (F : AV → AV → AV → AV → AHeap → Pos → KO → Bool) : CallK := fun _ t0 H nx k => @List.rec AV (fun _ => Bool) false (fun a0 t1 _ => @List.rec AV (fun _ => Bool) false (fun a1 t2 _ => @List.rec AV (fun _ => Bool) false (fun a2 t3 _ => @List.rec AV (fun _ => Bool) false (fun a3 t4 _ => @List.rec AV (fun _ => Bool) (F a0 a1 a2 a3 H nx k) (fun _ _ _ => false) t4) t3) t2) t1) t0
noncomputable abbrev ar5 (F : AV → AV → AV → AV → AV → AHeap → Pos → KO → Bool) : CallK := fun _ t0 H nx k => @List.rec AV (fun _ => Bool) false (fun a0 t1 _ => @List.rec AV (fun _ => Bool) false (fun a1 t2 _ => @List.rec AV (fun _ => Bool) false (fun a2 t3 _ => @List.rec AV (fun _ => Bool) false (fun a3 t4 _ => @List.rec AV (fun _ => Bool) false (fun a4 t5 _ => @List.rec AV (fun _ => Bool) (F a0 a1 a2 a3 a4 H nx k) (fun _ _ _ => false) t5) t4) t3) t2) t1) t0
noncomputable abbrev ar6 (F : AV → AV → AV → AV → AV → AV → AHeap → Pos → KO → Bool) : CallK := fun _ t0 H nx k => @List.rec AV (fun _ => Bool) false (fun a0 t1 _ => @List.rec AV (fun _ => Bool) false (fun a1 t2 _ => @List.rec AV (fun _ => Bool) false (fun a2 t3 _ => @List.rec AV (fun _ => Bool) false (fun a3 t4 _ => @List.rec AV (fun _ => Bool) false (fun a4 t5 _ => @List.rec AV (fun _ => Bool) false (fun a5 t6 _ => @List.rec AV (fun _ => Bool) (F a0 a1 a2 a3 a4 a5 H nx k) (fun _ _ _ => false) t6) t5) t4) t3) t2) t1) t0
noncomputable abbrev ar7 (F : AV → AV → AV → AV → AV → AV → AV → AHeap → Pos → KO → Bool) : CallK := fun _ t0 H nx k => @List.rec AV (fun _ => Bool) false (fun a0 t1 _ => @List.rec AV (fun _ => Bool) false (fun a1 t2 _ => @List.rec AV (fun _ => Bool) false (fun a2 t3 _ => @List.rec AV (fun _ => Bool) false (fun a3 t4 _ => @List.rec AV (fun _ => Bool) false (fun a4 t5 _ => @List.rec AV (fun _ => Bool) false (fun a5 t6 _ => @List.rec AV (fun _ => Bool) false (fun a6 t7 _ => @List.rec AV (fun _ => Bool) (F a0 a1 a2 a3 a4 a5 a6 H nx k) (fun _ _ _ => false) t7) t6) t5) t4) t3) t2) t1) t0
noncomputable abbrev ar8 (F : AV → AV → AV → AV → AV → AV → AV → AV → AHeap → Pos → KO → Bool) : CallK := fun _ t0 H nx k => @List.rec AV (fun _ => Bool) false (fun a0 t1 _ => @List.rec AV (fun _ => Bool) false (fun a1 t2 _ => @List.rec AV (fun _ => Bool) false (fun a2 t3 _ => @List.rec AV (fun _ => Bool) false (fun a3 t4 _ => @List.rec AV (fun _ => Bool) false (fun a4 t5 _ => @List.rec AV (fun _ => Bool) false (fun a5 t6 _ => @List.rec AV (fun _ => Bool) false (fun a6 t7 _ => @List.rec AV (fun _ => Bool) false (fun a7 t8 _ => @List.rec AV (fun _ => Bool) (F a0 a1 a2 a3 a4 a5 a6 a7 H nx k) (fun _ _ _ => false) t8) t7) t6) t5) t4) t3) t2) t1) t0
noncomputable abbrev ar9 (F : AV → AV → AV → AV → AV → AV → AV → AV → AV → AHeap → Pos → KO → Bool) : CallK := fun _ t0 H nx k => @List.rec AV (fun _ => Bool) false (fun a0 t1 _ => @List.rec AV (fun _ => Bool) false (fun a1 t2 _ => @List.rec AV (fun _ => Bool) false (fun a2 t3 _ => @List.rec AV (fun _ => Bool) false (fun a3 t4 _ => @List.rec AV (fun _ => Bool) false (fun a4 t5 _ => @List.rec AV (fun _ => Bool) false (fun a5 t6 _ => @List.rec AV (fun _ => Bool) false (fun a6 t7 _ => @List.rec AV (fun _ => Bool) false (fun a7 t8 _ => @List.rec AV (fun _ => Bool) false (fun a8 t9 _ => @List.rec AV (fun _ => Bool) (F a0 a1 a2 a3 a4 a5 a6 a7 a8 H nx k) (fun _ _ _ => false) t9) t8) t7) t6) t5) t4) t3) t2) t1) t0
end Go.Abs

namespace Go.Abs

def Ag (E T : PT AV) : Prop := ∀ p v, PT.get p E = some v → PT.get p T = some v

theorem Ag.put {E T : PT AV} (h : Ag E T) (p : Pos) (v : AV) : Ag (PT.put p (some v) E) (PT.put p (some v) T) := by
  intro q u hq
  by_cases e : q = p
  · subst e; rw [PT.get_put_same] at hq ⊢; exact hq
  · rw [PT.get_put_other _ _ _ _ e] at hq ⊢; exact h _ _ hq
theorem Ag.known {E T : PT AV} (h : Ag E T) {p : Pos} {v : AV} (hv : PT.get p T = some v) : Ag (PT.put p (some v) E) T := by
  intro q u hq
  by_cases e : q = p
  · subst e; rw [PT.get_put_same] at hq; rw [hv]; exact hq
  · rw [PT.get_put_other _ _ _ _ e] at hq; exact h _ _ hq
theorem Ag.kill {T : PT AV} : ∀ {ks : List Pos} {E : PT AV}, Ag E T → Ag (killE ks E) T
  | [], _, h => h
  | p :: ks, E, h => Ag.kill (ks := ks) (E := PT.put p none E) (by
    intro q u hq
    by_cases e : q = p
    · subst e; rw [PT.get_put_same] at hq; cases hq
    · rw [PT.get_put_other _ _ _ _ e] at hq; exact h _ _ hq)
theorem Ag.ptD {E T : PT AV} (h : Ag E T) (d : Option Pos) (v : AV) : Ag (ptD d v E) (putT d v T) := by
  cases d with
  | none => exact h
  | some p => exact h.put p v
theorem Ag.rf {E T : PT AV} (h : Ag E T) {x : AX} {v : AV} (hv : ∀ p, x = .t p → PT.get p T = some v) : Ag (rfE E x v) T := by
  cases x with
  | t p => exact h.known (hv p rfl)
  | c u => exact h

/-! ### Values -/
theorem evE_some {E T : PT AV} {x : AX} {K : AV → Bool} (h : evE E x K = true) (hA : Ag E T) : K (ev T x) = true ∧ ∀ p, x = .t p → PT.get p T = some (ev T x) := by
  cases x with
  | t p =>
    have h : @Option.rec AV (fun _ => Bool) false K (getR p E) = true := h
    rw [getR_eq] at h
    cases e : PT.get p E with
    | none => rw [e] at h; cases h
    | some v =>
      rw [e] at h
      have := hA _ _ e
      simp only [ev, this]
      exact ⟨h, fun q hq => by cases hq; exact this⟩
  | c v => exact ⟨h, fun q hq => by cases hq⟩
theorem evO_some {E T : PT AV} {x : Option AX} {K : Option AV → Bool} (h : evO E x K = true) (hA : Ag E T) : K (x.map (ev T)) = true := by
  cases x with
  | none => exact h
  | some x => exact (evE_some h hA).1
theorem evsE_some {E T : PT AV} (hA : Ag E T) : ∀ {xs : List AX} {K : List AV → Bool}, evsE E xs K = true → K (xs.map (ev T)) = true
  | [], _, h => h
  | x :: xs, K, h => by
    have h : evE E x (fun v => evsE E xs fun l => K (v :: l)) = true := h
    exact evsE_some hA (xs := xs) (K := fun l => K (ev T x :: l)) (evE_some h hA).1
theorem evpE_some {E T : PT AV} (hA : Ag E T) : ∀ {ps : List (Nat × Nat × AX)} {K : List (Nat × Nat × AV) → Bool}, evpE E ps K = true → K (ps.map fun q => (q.1, q.2.1, ev T q.2.2)) = true
  | [], _, h => h
  | q :: ps, K, h => by
    have h : evE E q.2.2 (fun v => evpE E ps fun l => K ((q.1, q.2.1, v) :: l)) = true := h
    exact evpE_some hA (ps := ps) (K := fun l => K ((q.1, q.2.1, ev T q.2.2) :: l)) (evE_some h hA).1

theorem ptrV_some {v : AV} {k : Pos → Nat → Bool} (h : ptrV v k = true) : ∃ id off, v = .ptr id off ∧ k id off = true := by
  cases v <;> first | (cases h; done) | exact ⟨_, _, rfl, h⟩
theorem intV_some {v : AV} {k : IntKind → Int → Bool} (h : intV v k = true) : ∃ q z, v = .int q z ∧ k q z = true := by
  cases v <;> first | (cases h; done) | exact ⟨_, _, rfl, h⟩
theorem inV_some {q : IntKind} {v : AV} {k : Int → Bool} (h : inV q v k = true) : ∃ z, v = .int q z ∧ k z = true := by
  obtain ⟨q', z, rfl, h'⟩ := intV_some h
  have h2 : @Bool.rec (fun _ => Bool) false (k z) (Nat.beq (kno q') (kno q)) = true := h'
  cases e : Nat.beq (kno q') (kno q) with
  | false => rw [e] at h2; cases h2
  | true => rw [e] at h2; obtain rfl := kno_inj e; exact ⟨z, rfl, h2⟩
theorem boolV_some {v : AV} {k : Bool → Bool} (h : boolV v k = true) : ∃ b, v = .bool b ∧ k b = true := by
  cases v <;> first | (cases h; done) | exact ⟨_, rfl, h⟩
theorem aggV_some {v : AV} {k : List AV → Bool} (h : aggV v k = true) : ∃ l, v = .agg l ∧ k l = true := by
  cases v <;> first | (cases h; done) | exact ⟨_, rfl, h⟩
theorem tupV_some {v : AV} {k : List AV → Bool} (h : tupV v k = true) : ∃ l, v = .tup l ∧ k l = true := by
  cases v <;> first | (cases h; done) | exact ⟨_, rfl, h⟩
theorem strV_some {v : AV} {k : List Nat → Bool} (h : strV v k = true) : ∃ l, v = .str l ∧ k l = true := by
  cases v <;> first | (cases h; done) | exact ⟨_, rfl, h⟩
theorem slV_some {v : AV} {k : Pos → Nat → Nat → Bool → Nat → Nat → Bool} (h : slV v k = true) : ∃ id off len ex cap es, v = .sl id off len ex cap es ∧ k id off len ex cap es = true := by
  cases v <;> first | (cases h; done) | exact ⟨_, _, _, _, _, _, rfl, h⟩
theorem grdV_some {v : AV} {k : Bool → Bool} {s : Bool} (h : grdV v k s = true) : (∃ b, v = .bool b ∧ k b = true) ∨ (v = .tup [] ∧ s = true) := by
  cases v <;> try (cases h; done)
  · exact .inl ⟨_, rfl, h⟩
  · rename_i l
    cases l with
    | nil => exact .inr ⟨rfl, h⟩
    | cons a l => cases h
theorem lenV_some {v : AV} {k : Int → Bool} (h : lenV v k = true) : (∃ id off len ex cap es, v = .sl id off len ex cap es ∧ k (.ofNat len) = true) ∨ (v = .nilsl ∧ k (.ofNat 0) = true) := by
  cases v <;> first | (cases h; done) | exact .inl ⟨_, _, _, _, _, _, rfl, h⟩ | exact .inr ⟨rfl, h⟩
theorem iteS_some {b x y : Bool} (h : iteS b x y = true) : (b = true ∧ x = true) ∨ (b = false ∧ y = true) := by
  cases b
  · exact .inr ⟨rfl, h⟩
  · exact .inl ⟨rfl, h⟩
theorem eqN_some {a b : Nat} {x : Bool} (h : eqN a b x = true) : a = b ∧ x = true := by
  cases e : Nat.beq a b with
  | false => unfold eqN at h; rw [e] at h; cases h
  | true => unfold eqN at h; rw [e] at h; exact ⟨Nat.eq_of_beq_eq_true e, h⟩
theorem frcZ_eq (z : Int) (k : Int → Bool) : frcZ z k = k z := by
  cases z <;> rename_i n <;> cases n <;> rfl
theorem forB_eq (b : Bool) (k : Bool → Bool) : forB b k = k b := by cases b <;> rfl
theorem natI_some {w : Int} {k : Nat → Bool} (h : natI w k = true) : ∃ n : Nat, w = .ofNat n ∧ k n = true := by
  cases w with
  | ofNat n => exact ⟨n, rfl, h⟩
  | negSucc n => cases h
theorem nzI_some {w : Int} {x : Bool} (h : nzI w x = true) : w ≠ 0 ∧ x = true := by
  cases w with
  | ofNat n =>
    cases n with
    | zero => cases h
    | succ n => exact ⟨by simp only [Int.ofNat_eq_natCast]; omega, h⟩
  | negSucc n => exact ⟨by simp, h⟩
theorem idxI_some {z : Int} {len : Nat} {k : Nat → Bool} (h : idxI z len k = true) : ∃ n : Nat, z = .ofNat n ∧ n < len ∧ k n = true := by
  cases z with
  | negSucc n => cases h
  | ofNat n =>
    have h : @Bool.rec (fun _ => Bool) false (k n) (Nat.ble (Nat.succ n) len) = true := h
    cases e : Nat.ble (Nat.succ n) len with
    | false => rw [e] at h; cases h
    | true => rw [e] at h; rw [Nat.ble_eq] at e; exact ⟨n, rfl, e, h⟩

/-! ### Numbers -/
theorem fitZ_eq (q : IntKind) (n : Nat) : fitZ q n = q.wrap (n : Int) := by
  unfold fitZ
  cases e : Nat.ble n (kmax q) with
  | false => rfl
  | true => exact (wrap_fit e).symm
theorem addZ_eq (q : IntKind) (a b : Int) : addZ q a b = q.wrap (a + b) := by
  cases a <;> cases b <;> first | rfl | exact fitZ_eq _ _
theorem mulZ_eq (q : IntKind) (a b : Int) : mulZ q a b = q.wrap (a * b) := by
  cases a <;> cases b <;> first | rfl | exact fitZ_eq _ _
theorem subZ_eq (q : IntKind) (a b : Int) : subZ q a b = q.wrap (a - b) := by
  cases a <;> cases b <;> try rfl
  rename_i n m
  show @Bool.rec (fun _ => Int) (q.wrap (.ofNat n - .ofNat m)) (.ofNat (Nat.sub n m)) (and (Nat.ble m n) (Nat.ble n (kmax q))) = _
  cases e1 : Nat.ble m n with
  | false => rfl
  | true =>
    cases e2 : Nat.ble n (kmax q) with
    | false => rfl
    | true =>
      rw [Nat.ble_eq] at e1
      have e3 : Nat.ble (n - m) (kmax q) = true := by
        rw [Nat.ble_eq] at e2 ⊢
        omega
      have := wrap_fit e3
      show Int.ofNat (n - m) = _
      rw [show (Int.ofNat n - Int.ofNat m) = ((n - m : Nat) : Int) by simp only [Int.ofNat_eq_natCast]; omega, this]
      rfl
theorem quoZ_eq (q : IntKind) (a b : Int) : quoZ q a b = q.wrap (a.tdiv b) := by
  cases a <;> cases b <;> first | rfl | exact fitZ_eq _ _
theorem remZ_eq (a b : Int) : remZ a b = a.tmod b := by
  cases a <;> cases b <;> rfl
theorem cvZ_eq (q : IntKind) (a : Int) : cvZ q a = q.wrap a := by
  cases a
  · exact fitZ_eq _ _
  · rfl
theorem shrZ_eq (q : IntKind) (a : Int) (s : Nat) : shrZ q a s = a.fdiv (2 ^ (min s q.bits)) := by
  cases a
  · rename_i n
    show Int.ofNat (Nat.div n (Nat.pow 2 (min s q.bits))) = _
    rw [show ((2 : Int) ^ (min s q.bits)) = ((2 ^ (min s q.bits) : Nat) : Int) by simp]
    exact Int.ofNat_fdiv n _
  · rfl
theorem beq_of {α : Type} [DecidableEq α] {a b : α} {r : Bool} (h : r = true ↔ a = b) : r = (a == b) := by
  rw [Bool.eq_iff_iff, h]; simp
theorem eqZ_eq (a b : Int) : eqZ a b = (a == b) := by
  refine beq_of ?_
  cases a <;> cases b <;> simp only [eqZ, Nat.beq_eq, Int.ofNat_eq_natCast] <;> first | omega | (constructor <;> (intro h; first | (cases h; done) | omega))
theorem ltZ_eq (a b : Int) : ltZ a b = decide (a < b) := by
  rw [Bool.eq_iff_iff, decide_eq_true_iff]
  cases a <;> cases b <;> rename_i n m
  · show Nat.ble (Nat.succ n) m = true ↔ _
    rw [Nat.ble_eq]; simp only [Int.ofNat_eq_natCast]; omega
  · show false = true ↔ _
    rw [Int.negSucc_eq]; simp only [Int.ofNat_eq_natCast]
    exact ⟨(fun h => by cases h), fun h => by omega⟩
  · show true = true ↔ _
    rw [Int.negSucc_eq]; simp only [Int.ofNat_eq_natCast]
    exact ⟨(fun _ => by omega), fun _ => trivial⟩
  · show Nat.ble (Nat.succ m) n = true ↔ _
    rw [Nat.ble_eq, Int.negSucc_eq, Int.negSucc_eq]; omega
theorem leZ_eq (a b : Int) : leZ a b = decide (a ≤ b) := by
  rw [Bool.eq_iff_iff, decide_eq_true_iff]
  cases a <;> cases b <;> rename_i n m
  · show Nat.ble n m = true ↔ _
    rw [Nat.ble_eq]; simp only [Int.ofNat_eq_natCast]; omega
  · show false = true ↔ _
    rw [Int.negSucc_eq]; simp only [Int.ofNat_eq_natCast]
    exact ⟨(fun h => by cases h), fun h => by omega⟩
  · show true = true ↔ _
    rw [Int.negSucc_eq]; simp only [Int.ofNat_eq_natCast]
    exact ⟨(fun _ => by omega), fun _ => trivial⟩
  · show Nat.ble m n = true ↔ _
    rw [Nat.ble_eq, Int.negSucc_eq, Int.negSucc_eq]; omega
theorem notB_eq (b : Bool) : notB b = !b := by cases b <;> rfl
theorem cndV_eq (b : Bool) (x y : AV) : cndV b x y = bif b then x else y := by cases b <;> rfl
theorem cndB_eq (b : Bool) (x y : Bool) : cndB b x y = bif b then x else y := by cases b <;> rfl
theorem cndZ_eq (b : Bool) (x y : Int) : cndZ b x y = bif b then x else y := by cases b <;> rfl

theorem intsE_some {op : BinOp} {ek : EqK} {ks : List Nat} {q q' : IntKind} {z w : Int} {K : AV → Bool} (h : intsE op q z w K = true) (hq : op = .shl ∨ op = .shr ∨ q' = q) : ∃ v, binA op ek ks (.int q z) (.int q' w) = some v ∧ K v = true := by
  have ar : ∀ {n : Int}, op ≠ .shl → op ≠ .shr → arith op q z w = some n → binA op ek ks (.int q z) (.int q' w) = some (.int q n) := by
    intro n n1 n2 e
    obtain rfl : q' = q := by rcases hq with h | h | h <;> first | exact absurd h n1 | exact absurd h n2 | exact h
    show binI op q' z q' w = _
    unfold binI
    split
    · exact absurd rfl n1
    · exact absurd rfl n2
    · simp only [if_true, e, mkInt_eq]
  have cm : ∀ {r : Bool}, op ≠ .shl → op ≠ .shr → arith op q z w = none → cmpI op z w = some r → binA op ek ks (.int q z) (.int q' w) = some (.bool r) := by
    intro r n1 n2 e1 e2
    obtain rfl : q' = q := by rcases hq with h | h | h <;> first | exact absurd h n1 | exact absurd h n2 | exact h
    show binI op q' z q' w = _
    unfold binI
    split
    · exact absurd rfl n1
    · exact absurd rfl n2
    · simp only [if_true, e1, e2, mkBool_eq]
  cases op
  case add => exact ⟨_, ar (by simp) (by simp) rfl, by rw [← addZ_eq]; exact h⟩
  case sub => exact ⟨_, ar (by simp) (by simp) rfl, by rw [← subZ_eq]; exact h⟩
  case mul => exact ⟨_, ar (by simp) (by simp) rfl, by rw [← mulZ_eq]; exact h⟩
  case quo =>
    obtain ⟨h1, h⟩ := nzI_some h
    exact ⟨_, ar (n := q.wrap (z.tdiv w)) (by simp) (by simp) (by simp only [arith, if_neg h1]), by rw [← quoZ_eq]; exact h⟩
  case rem =>
    obtain ⟨h1, h⟩ := nzI_some h
    exact ⟨_, ar (n := z.tmod w) (by simp) (by simp) (by simp only [arith, if_neg h1]), by rw [← remZ_eq]; exact h⟩
  case and => exact ⟨_, ar (by simp) (by simp) rfl, h⟩
  case or => exact ⟨_, ar (by simp) (by simp) rfl, h⟩
  case xor => exact ⟨_, ar (by simp) (by simp) rfl, h⟩
  case andNot => exact ⟨_, ar (by simp) (by simp) rfl, h⟩
  case shl =>
    obtain ⟨n, rfl, h⟩ := natI_some h
    refine ⟨_, ?_, h⟩
    simp only [binA, binI, shiftI, mkInt_eq, shlZ]
    rw [if_neg (by simp only [Int.ofNat_eq_natCast]; omega)]
    rfl
  case shr =>
    obtain ⟨n, rfl, h⟩ := natI_some h
    refine ⟨_, ?_, h⟩
    simp only [binA, binI, shiftI, mkInt_eq]
    rw [if_neg (by simp only [Int.ofNat_eq_natCast]; omega), shrZ_eq]
    rfl
  case eql => exact ⟨_, cm (by simp) (by simp) rfl rfl, by rw [← eqZ_eq]; exact h⟩
  case neq => exact ⟨_, cm (by simp) (by simp) rfl rfl, by rw [bne, ← eqZ_eq, ← notB_eq]; exact h⟩
  case lss => exact ⟨_, cm (by simp) (by simp) rfl rfl, by rw [← ltZ_eq]; exact h⟩
  case leq => exact ⟨_, cm (by simp) (by simp) rfl rfl, by rw [← leZ_eq]; exact h⟩
  case gtr => exact ⟨_, cm (by simp) (by simp) rfl rfl, by rw [← ltZ_eq]; exact h⟩
  case geq => exact ⟨_, cm (by simp) (by simp) rfl rfl, by rw [← leZ_eq]; exact h⟩

theorem binB_some {op : BinOp} {ek : EqK} {ks : List Nat} {a b : AV} {k : Bool → Bool} (h : binB op ek ks a b k = true) : ∃ r, binA op ek ks a b = some (.bool r) ∧ k r = true := by
  obtain ⟨v, e, h⟩ := binK_some h
  obtain ⟨r, rfl, h⟩ := boolV_some h
  exact ⟨r, e, h⟩

/-! ### Memory -/
theorem nthV_some : ∀ {n : Nat} {l : List AV} {k : AV → Bool}, nthV n l k = true → ∃ v, nthL n l = some v ∧ k v = true
  | 0, [], _, h => by cases h
  | 0, a :: l, _, h => ⟨a, rfl, h⟩
  | n + 1, [], _, h => by cases h
  | n + 1, a :: l, k, h => nthV_some (n := n) (l := l) h
theorem takeC_some : ∀ {n : Nat} {l : List AV} {f : List AV → Bool}, takeC n l (curL n f) = true → ∃ r, takeN n l = some r ∧ f r = true
  | 0, l, f, h => ⟨[], by cases l <;> rfl, h⟩
  | n + 1, [], f, h => by cases h
  | n + 1, a :: l, f, h => by
    obtain ⟨r, e, h⟩ := takeC_some (n := n) (l := l) (f := fun r => f (a :: r)) h
    exact ⟨a :: r, by simp only [takeN, e], h⟩
theorem ld1_some {id : Pos} {off n : Nat} {H : AHeap} {k : AV → Bool} (h : ld1 id off H k = true) {e : AX → AV} {a : AX} (he : e a = .ptr id off) : ∃ v, ldA e H (.load false n a) = some v ∧ k v = true := by
  unfold ld1 at h
  rw [getB_eq] at h
  obtain ⟨ro, l, e2, h⟩ := blkK_some h
  obtain ⟨v, e3, h⟩ := nthR_some h
  exact ⟨v, by simp only [ldA, he, e2, e3], h⟩
theorem ldL_some {id : Pos} {off n : Nat} {H : AHeap} {k : List AV → Bool} (h : ldL id off n H k = true) {e : AX → AV} {a : AX} (he : e a = .ptr id off) : ∃ l, ldA e H (.load true n a) = some (.agg l) ∧ k l = true := by
  unfold ldL at h
  rw [getB_eq] at h
  obtain ⟨ro, l, e2, h⟩ := blkK_some h
  rw [dropR_eq] at h
  obtain ⟨r, e3, h⟩ := takeR_some h
  exact ⟨r, by simp only [ldA, he, e2, e3], h⟩
theorem ldC_some {id : Pos} {off n : Nat} {H : AHeap} {f : List AV → Bool} (h : ldC n id off H (curL n f) = true) {e : AX → AV} {a : AX} (he : e a = .ptr id off) : ∃ l, ldA e H (.load true n a) = some (.agg l) ∧ f l = true := by
  unfold ldC at h
  rw [getB_eq] at h
  obtain ⟨ro, l, e2, h⟩ := blkK_some h
  rw [dropR_eq] at h
  obtain ⟨r, e3, h⟩ := takeC_some h
  exact ⟨r, by simp only [ldA, he, e2, e3], h⟩
theorem stV_some {n : Nat} {id : Pos} {off : Nat} {v : AV} {H : AHeap} {k : AHeap → Bool} (h : stV n id off v H k = true) {e : AX → AV} {a x : AX} (he : e a = .ptr id off) (hx : e x = v) : ∃ H', stA e H n a x = some H' ∧ k H' = true := by
  subst hx
  unfold stV at h
  rw [getB_eq] at h
  obtain ⟨ro, l, e2, h⟩ := blkK_some h
  cases ro with
  | true => cases h
  | false =>
    obtain ⟨e3, h⟩ := cellsK_some h
    obtain ⟨e4, h⟩ := allOneK_some h
    obtain ⟨e5, h⟩ := andK_some h
    obtain ⟨l', e6, h⟩ := putLK_some h
    rw [putB_eq] at h
    have e5 := Nat.eq_of_beq_eq_true e5
    rw [lenR_eq] at e5
    exact ⟨_, by simp only [stA, he, e2, e3, e5, e4, e6, if_true], h⟩
theorem nwL_eq (l : List AV) (H : AHeap) (nx : Pos) (k : AHeap → Pos → Bool) : nwL l H nx k = k (PT.put nx (some (.cells false l)) H) nx.succ := by
  unfold nwL
  rw [putB_eq, succK_eq]
theorem nwV_some {v : AV} {H : AHeap} {nx : Pos} {k : AHeap → Pos → Bool} (h : nwV v H nx k = true) : v.flat = true ∧ k (PT.put nx (some (.cells false v.cells)) H) nx.succ = true := by
  unfold nwV at h
  obtain ⟨h1, h⟩ := cellsK_some h
  rw [nwL_eq] at h
  exact ⟨h1, h⟩
theorem fillV_some {e : AX → AV} : ∀ {ps : List (Nat × Nat × AX)} {z : List AV} {k : List AV → Bool}, fillV (ps.map fun q => (q.1, q.2.1, e q.2.2)) z k = true → ∃ r, fillA e ps z = some r ∧ k r = true
  | [], z, k, h => ⟨z, rfl, h⟩
  | (off, n, x) :: ps, z, k, h => by
    have h : cellsK (e x) (fun xs => andK (Nat.beq (lenR xs) n) fun _ => putLK z off xs fun z' => fillV (ps.map fun q => (q.1, q.2.1, e q.2.2)) z' k) = true := h
    obtain ⟨h1, h⟩ := cellsK_some h
    obtain ⟨h2, h⟩ := andK_some h
    obtain ⟨z', h3, h⟩ := putLK_some h
    obtain ⟨r, h4, h⟩ := fillV_some h
    have h2 := Nat.eq_of_beq_eq_true h2
    rw [lenR_eq] at h2
    exact ⟨r, by simp only [fillA, h1, h2, if_true, h3, h4], h⟩
end Go.Abs
