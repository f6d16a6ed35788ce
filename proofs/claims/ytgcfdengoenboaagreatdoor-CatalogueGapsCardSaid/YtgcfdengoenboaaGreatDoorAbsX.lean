/- The abstract interpreter, part X: the same runs once more, in a form that the kernel reckons quickly: all in continuations, by the recursors alone, with closed cases. What it finds true is so of the plain form. -/
import Derived.Test.YtgcfdengoenboaaGreatDoorAbsM
namespace Go.Abs

section
noncomputable def selR {S : Type} (x : DD) (n : N4 S) : S := @N4.rec S (fun _ => S) (fun a b c d => @DD.rec (fun _ => S) a b c d x) n
theorem selR_eq {S : Type} (x : DD) (n : N4 S) : selR x n = sel x n := by cases n; cases x <;> rfl
/-- Looking up. -/
noncomputable def getK {α : Type} (p : Pos) (t : PT α) (k : Option α → Bool) : Bool :=
  @Pos.rec (fun _ => Bool)
    (fun x0 x1 x2 => @PT.rec α (fun _ => Bool) (fun s _ _ _ _ => k (selR x2 (selR x1 (selR x0 s)))) t)
    (fun x0 x1 x2 x3 x4 => @PT.rec α (fun _ => Bool) (fun _ m _ _ _ => k (selR x4 (selR x3 (selR x2 (selR x1 (selR x0 m)))))) t)
    (fun x0 x1 x2 x3 x4 x5 => @PT.rec α (fun _ => Bool) (fun _ _ l _ _ => k (selR x5 (selR x4 (selR x3 (selR x2 (selR x1 (selR x0 l))))))) t)
    (fun x0 x1 x2 x3 x4 x5 x6 x7 => @PT.rec α (fun _ => Bool) (fun _ _ _ t _ => k (selR x7 (selR x6 (selR x5 (selR x4 (selR x3 (selR x2 (selR x1 (selR x0 t))))))))) t)
    (fun n => @PT.rec α (fun _ => Bool) (fun _ _ _ _ x => k (x n)) t) p

theorem getK_eq {α : Type} (p : Pos) (t : PT α) (k : Option α → Bool) : getK p t k = k (PT.get p t) := by
  cases t; cases p <;> simp only [getK, PT.get, selR_eq]

noncomputable def getR {α : Type} (p : Pos) (t : PT α) : Option α :=
  @Pos.rec (fun _ => Option α)
    (fun x0 x1 x2 => @PT.rec α (fun _ => Option α) (fun s _ _ _ _ => selR x2 (selR x1 (selR x0 s))) t)
    (fun x0 x1 x2 x3 x4 => @PT.rec α (fun _ => Option α) (fun _ m _ _ _ => selR x4 (selR x3 (selR x2 (selR x1 (selR x0 m))))) t)
    (fun x0 x1 x2 x3 x4 x5 => @PT.rec α (fun _ => Option α) (fun _ _ l _ _ => selR x5 (selR x4 (selR x3 (selR x2 (selR x1 (selR x0 l)))))) t)
    (fun x0 x1 x2 x3 x4 x5 x6 x7 => @PT.rec α (fun _ => Option α) (fun _ _ _ t _ => selR x7 (selR x6 (selR x5 (selR x4 (selR x3 (selR x2 (selR x1 (selR x0 t)))))))) t)
    (fun n => @PT.rec α (fun _ => Option α) (fun _ _ _ _ x => x n) t) p

theorem getR_eq {α : Type} (p : Pos) (t : PT α) : getR p t = PT.get p t := by
  cases t; cases p <;> simp only [getR, PT.get, selR_eq]

noncomputable def evR (T : PT AV) (x : AX) : AV :=
  @AX.rec (fun _ => PT AV → AV) (fun p T => @Option.rec AV (fun _ => AV) undefA (fun v => v) (getR p T)) (fun v _ => v) x T
theorem evR_eq (T : PT AV) : evR T = ev T := by
  funext x
  cases x with
  | t p =>
    show @Option.rec AV (fun _ => AV) undefA (fun v => v) (getR p T) = _
    rw [getR_eq]
    simp only [ev]
    cases PT.get p T <;> rfl
  | c v => rfl

noncomputable def optK {α : Type} (x : Option α) (k : α → Bool) : Bool := @Option.rec α (fun _ => Bool) false k x
theorem optK_some {α : Type} {x : Option α} {k : α → Bool} (h : optK x k = true) : ∃ a, x = some a ∧ k a = true := by
  cases x with
  | none => cases h
  | some a => exact ⟨a, rfl, h⟩

noncomputable def evK (T : PT AV) (x : AX) (k : AV → Bool) : Bool :=
  @AX.rec (fun _ => Bool) (fun p => getV p T (@Option.rec AV (fun _ => Bool) (k undefA) k)) (fun v => k v) x
theorem evK_eq (T : PT AV) (x : AX) (k : AV → Bool) : evK T x k = k (ev T x) := by
  cases x with
  | t p =>
    show getV p T (@Option.rec AV (fun _ => Bool) (k undefA) k) = _
    rw [getV_eq]
    simp only [ev]
    cases PT.get p T <;> rfl
  | c v => rfl

noncomputable def evsK (T : PT AV) (xs : List AX) (k : List AV → Bool) : Bool :=
  @List.rec AX (fun _ => PT AV → (List AV → Bool) → Bool) (fun _ k => k []) (fun x _ ih T k => evK T x fun v => ih T fun l => k (v :: l)) xs T k
theorem evsK_eq (T : PT AV) : ∀ (xs : List AX) (k : List AV → Bool), evsK T xs k = k (xs.map (ev T))
  | [], _ => rfl
  | x :: xs, k => by
    have : evsK T (x :: xs) k = evK T x fun v => evsK T xs fun l => k (v :: l) := rfl
    rw [this, evK_eq, evsK_eq T xs]
    rfl

/-- A number looked at. -/
noncomputable def natK (n : Nat) (k : Nat → Bool) : Bool := @Nat.rec (fun _ => (Nat → Bool) → Bool) (fun k => k 0) (fun m _ k => k (Nat.succ m)) n k
theorem natK_eq (n : Nat) (k : Nat → Bool) : natK n k = k n := by cases n <;> rfl

noncomputable def iteK (b : Bool) (x y : Unit → Bool) : Bool := @Bool.rec (fun _ => (Unit → Bool) → (Unit → Bool) → Bool) (fun _ y => y ()) (fun x _ => x ()) b x y
theorem iteK_some {b : Bool} {x y : Unit → Bool} (h : iteK b x y = true) : (b = true ∧ x () = true) ∨ (b = false ∧ y () = true) := by
  cases b
  · exact .inr ⟨rfl, h⟩
  · exact .inl ⟨rfl, h⟩
noncomputable def andK (b : Bool) (x : Unit → Bool) : Bool := @Bool.rec (fun _ => (Unit → Bool) → Bool) (fun _ => false) (fun x => x ()) b x
theorem andK_some {b : Bool} {x : Unit → Bool} (h : andK b x = true) : b = true ∧ x () = true := by
  cases b
  · cases h
  · exact ⟨rfl, h⟩

/-! The kinds of values. -/
noncomputable def boolK (v : AV) (a b : Unit → Bool) : Bool :=
  @AV.rec (fun _ => (Unit → Bool) → (Unit → Bool) → Bool) (fun _ => Unit) (fun q a b => @Bool.rec (fun _ => (Unit → Bool) → (Unit → Bool) → Bool) (fun _ b => b ()) (fun a _ => a ()) q a b) (fun _ _ _ _ => false) (fun _ _ _ _ _ => false) (fun _ _ _ => false) (fun _ _ _ => false) (fun _ _ => false) (fun _ _ _ _ => false) (fun _ _ => false) (fun _ _ _ _ _ _ _ _ => false) (fun _ _ => false) (fun _ _ _ _ _ _ _ => false) (fun _ _ _ => false) (fun _ _ _ => false) (fun _ _ => false) (fun _ _ _ _ _ => false) (fun _ _ => false) (fun _ _ _ _ => false) (fun _ _ _ _ => false) (fun _ _ => false) () (fun _ _ _ _ => ()) v a b
theorem boolK_some {v : AV} {a b : Unit → Bool} (h : boolK v a b = true) : (v = .bool true ∧ a () = true) ∨ (v = .bool false ∧ b () = true) := by
  cases v <;> try (cases h; done)
  rename_i q
  cases q
  · exact .inr ⟨rfl, h⟩
  · exact .inl ⟨rfl, h⟩

noncomputable def ptrK (v : AV) (f : Pos → Nat → Bool) : Bool :=
  @AV.rec (fun _ => (Pos → Nat → Bool) → Bool) (fun _ => Unit) (fun _ _ => false) (fun _ _ _ => false) (fun _ _ _ _ => false) (fun _ _ => false) (fun _ _ => false) (fun _ => false) (fun id off f => f id off) (fun _ => false) (fun _ _ _ _ _ _ _ => false) (fun _ => false) (fun _ _ _ _ _ _ => false) (fun _ _ => false) (fun _ _ => false) (fun _ => false) (fun _ _ _ _ => false) (fun _ => false) (fun _ _ _ => false) (fun _ _ _ => false) (fun _ => false) () (fun _ _ _ _ => ()) v f
theorem ptrK_some {v : AV} {f : Pos → Nat → Bool} (h : ptrK v f = true) : ∃ id off, v = .ptr id off ∧ f id off = true := by
  cases v <;> first | (cases h; done) | exact ⟨_, _, rfl, h⟩

noncomputable def slK (v : AV) (f : Pos → Nat → Nat → Bool → Nat → Nat → Bool) : Bool :=
  @AV.rec (fun _ => (Pos → Nat → Nat → Bool → Nat → Nat → Bool) → Bool) (fun _ => Unit) (fun _ _ => false) (fun _ _ _ => false) (fun _ _ _ _ => false) (fun _ _ => false) (fun _ _ => false) (fun _ => false) (fun _ _ _ => false) (fun _ => false) (fun id off len ex cap es f => f id off len ex cap es) (fun _ => false) (fun _ _ _ _ _ _ => false) (fun _ _ => false) (fun _ _ => false) (fun _ => false) (fun _ _ _ _ => false) (fun _ => false) (fun _ _ _ => false) (fun _ _ _ => false) (fun _ => false) () (fun _ _ _ _ => ()) v f
theorem slK_some {v : AV} {f : Pos → Nat → Nat → Bool → Nat → Nat → Bool} (h : slK v f = true) : ∃ id off len ex cap es, v = .sl id off len ex cap es ∧ f id off len ex cap es = true := by
  cases v <;> first | (cases h; done) | exact ⟨_, _, _, _, _, _, rfl, h⟩

/-- A slice, nil or not. -/
noncomputable def slnK (v : AV) (g : Unit → Bool) (f : Pos → Nat → Nat → Bool → Nat → Nat → Bool) : Bool :=
  @AV.rec (fun _ => (Unit → Bool) → (Pos → Nat → Nat → Bool → Nat → Nat → Bool) → Bool) (fun _ => Unit) (fun _ _ _ => false) (fun _ _ _ _ => false) (fun _ _ _ _ _ => false) (fun _ _ _ => false) (fun _ _ _ => false) (fun _ _ => false) (fun _ _ _ _ => false) (fun g _ => g ()) (fun id off len ex cap es _ f => f id off len ex cap es) (fun _ _ => false) (fun _ _ _ _ _ _ _ => false) (fun _ _ _ => false) (fun _ _ _ => false) (fun _ _ => false) (fun _ _ _ _ _ => false) (fun _ _ => false) (fun _ _ _ _ => false) (fun _ _ _ _ => false) (fun _ _ => false) () (fun _ _ _ _ => ()) v g f
theorem slnK_some {v : AV} {g : Unit → Bool} {f : Pos → Nat → Nat → Bool → Nat → Nat → Bool} (h : slnK v g f = true) : (v = .nilsl ∧ g () = true) ∨ ∃ id off len ex cap es, v = .sl id off len ex cap es ∧ f id off len ex cap es = true := by
  cases v <;> first | (cases h; done) | exact .inl ⟨rfl, h⟩ | exact .inr ⟨_, _, _, _, _, _, rfl, h⟩

noncomputable def aggK (v : AV) (f : List AV → Bool) : Bool :=
  @AV.rec (fun _ => (List AV → Bool) → Bool) (fun _ => Unit) (fun _ _ => false) (fun _ _ _ => false) (fun _ _ _ _ => false) (fun _ _ => false) (fun _ _ => false) (fun _ => false) (fun _ _ _ => false) (fun _ => false) (fun _ _ _ _ _ _ _ => false) (fun _ => false) (fun _ _ _ _ _ _ => false) (fun _ _ => false) (fun _ _ => false) (fun _ => false) (fun _ _ _ _ => false) (fun _ => false) (fun l _ f => f l) (fun _ _ _ => false) (fun _ => false) () (fun _ _ _ _ => ()) v f
theorem aggK_some {v : AV} {f : List AV → Bool} (h : aggK v f = true) : ∃ l, v = .agg l ∧ f l = true := by
  cases v <;> first | (cases h; done) | exact ⟨_, rfl, h⟩

noncomputable def tupK (v : AV) (f : List AV → Bool) : Bool :=
  @AV.rec (fun _ => (List AV → Bool) → Bool) (fun _ => Unit) (fun _ _ => false) (fun _ _ _ => false) (fun _ _ _ _ => false) (fun _ _ => false) (fun _ _ => false) (fun _ => false) (fun _ _ _ => false) (fun _ => false) (fun _ _ _ _ _ _ _ => false) (fun _ => false) (fun _ _ _ _ _ _ => false) (fun _ _ => false) (fun _ _ => false) (fun _ => false) (fun _ _ _ _ => false) (fun _ => false) (fun _ _ _ => false) (fun l _ f => f l) (fun _ => false) () (fun _ _ _ _ => ()) v f
theorem tupK_some {v : AV} {f : List AV → Bool} (h : tupK v f = true) : ∃ l, v = .tup l ∧ f l = true := by
  cases v <;> first | (cases h; done) | exact ⟨_, rfl, h⟩

noncomputable def strK (v : AV) (f : List Nat → Bool) : Bool :=
  @AV.rec (fun _ => (List Nat → Bool) → Bool) (fun _ => Unit) (fun _ _ => false) (fun _ _ _ => false) (fun _ _ _ _ => false) (fun l f => f l) (fun _ _ => false) (fun _ => false) (fun _ _ _ => false) (fun _ => false) (fun _ _ _ _ _ _ _ => false) (fun _ => false) (fun _ _ _ _ _ _ => false) (fun _ _ => false) (fun _ _ => false) (fun _ => false) (fun _ _ _ _ => false) (fun _ => false) (fun _ _ _ => false) (fun _ _ _ => false) (fun _ => false) () (fun _ _ _ _ => ()) v f
theorem strK_some {v : AV} {f : List Nat → Bool} (h : strK v f = true) : ∃ l, v = .str l ∧ f l = true := by
  cases v <;> first | (cases h; done) | exact ⟨_, rfl, h⟩

/-- An integer that is not negative; or else. -/
noncomputable def posK (k : IntKind) (n : Int) (f : IntKind → Nat → Bool) (g : Unit → Bool) : Bool := @Int.rec (fun _ => IntKind → (IntKind → Nat → Bool) → (Unit → Bool) → Bool) (fun n k f _ => f k n) (fun _ _ _ g => g ()) n k f g
noncomputable def numK (v : AV) (f : IntKind → Nat → Bool) (g : Unit → Bool) : Bool :=
  @AV.rec (fun _ => (IntKind → Nat → Bool) → (Unit → Bool) → Bool) (fun _ => Unit) (fun _ _ g => g ()) (fun k n f g => posK k n f g) (fun _ _ _ _ g => g ()) (fun _ _ g => g ()) (fun _ _ g => g ()) (fun _ g => g ()) (fun _ _ _ g => g ()) (fun _ g => g ()) (fun _ _ _ _ _ _ _ g => g ()) (fun _ g => g ()) (fun _ _ _ _ _ _ g => g ()) (fun _ _ g => g ()) (fun _ _ g => g ()) (fun _ g => g ()) (fun _ _ _ _ g => g ()) (fun _ g => g ()) (fun _ _ _ g => g ()) (fun _ _ _ g => g ()) (fun _ g => g ()) () (fun _ _ _ _ => ()) v f g
theorem numK_some {v : AV} {f : IntKind → Nat → Bool} {g : Unit → Bool} (h : numK v f g = true) : (∃ k n, v = .int k (.ofNat n) ∧ f k n = true) ∨ g () = true := by
  cases v <;> try exact .inr h
  rename_i k n
  cases n
  · exact .inl ⟨_, _, rfl, h⟩
  · exact .inr h

/-- The cells of a value that is to be written. -/
noncomputable def cellsK (v : AV) (f : List AV → Bool) : Bool :=
  @AV.rec (fun _ => (List AV → Bool) → Bool) (fun _ => Unit) (fun x0 f => f [.bool x0]) (fun x0 x1 f => f [.int x0 x1]) (fun x0 x1 x2 f => f [.rng x0 x1 x2]) (fun x0 f => f [.str x0]) (fun x0 f => f [.anys x0]) (fun f => f [.nilp]) (fun x0 x1 f => f [.ptr x0 x1]) (fun f => f [.nilsl]) (fun x0 x1 x2 x3 x4 x5 f => f [.sl x0 x1 x2 x3 x4 x5]) (fun f => f [.nilmap]) (fun x0 x1 x2 _ _ f => f [.fn x0 x1 x2]) (fun x0 f => f [.yld x0]) (fun x0 f => f [.mp x0]) (fun f => f [.nilfn]) (fun x0 x1 _ f => f [.ifc x0 x1]) (fun f => f [.nilifc]) (fun l _ f => f l) (fun x0 _ f => f [.tup x0]) (fun _ => false) () (fun _ _ _ _ => ()) v f
theorem cellsK_some {v : AV} {f : List AV → Bool} (h : cellsK v f = true) : v.flat = true ∧ f v.cells = true := by
  cases v <;> first | (cases h; done) | exact ⟨rfl, h⟩

noncomputable def oneK (v : AV) (k : Unit → Bool) : Bool :=
  @AV.rec (fun _ => (Unit → Bool) → Bool) (fun _ => Unit) (fun _ k => k ()) (fun _ _ k => k ()) (fun _ _ _ k => k ()) (fun _ k => k ()) (fun _ k => k ()) (fun k => k ()) (fun _ _ k => k ()) (fun k => k ()) (fun _ _ _ _ _ _ k => k ()) (fun k => k ()) (fun _ _ _ _ _ k => k ()) (fun _ k => k ()) (fun _ k => k ()) (fun k => k ()) (fun _ _ _ k => k ()) (fun k => k ()) (fun _ _ _ => false) (fun _ _ _ => false) (fun _ => false) () (fun _ _ _ _ => ()) v k
theorem oneK_some {v : AV} {k : Unit → Bool} (h : oneK v k = true) : v.one = true ∧ k () = true := by
  cases v <;> first | (cases h; done) | exact ⟨rfl, h⟩
noncomputable def allOneK (l : List AV) (k : Unit → Bool) : Bool := @List.rec AV (fun _ => (Unit → Bool) → Bool) (fun k => k ()) (fun a _ ih k => oneK a fun _ => ih k) l k
theorem allOneK_some : ∀ {l : List AV} {k : Unit → Bool}, allOneK l k = true → allOne l = true ∧ k () = true
  | [], _, h => ⟨rfl, h⟩
  | a :: l, k, h => by
    have h : oneK a (fun _ => allOneK l k) = true := h
    obtain ⟨h1, h2⟩ := oneK_some h
    obtain ⟨h3, h4⟩ := allOneK_some h2
    exact ⟨by simp only [allOne, h1, h3], h4⟩

/-! Lists. -/
noncomputable def nthR (l : List AV) (n : Nat) (k : AV → Bool) : Bool :=
  @List.rec AV (fun _ => Nat → (AV → Bool) → Bool) (fun _ _ => false) (fun a _ ih n k => @Nat.rec (fun _ => AV → (Nat → (AV → Bool) → Bool) → (AV → Bool) → Bool) (fun a _ k => k a) (fun m _ _ ih k => ih m k) n a ih k) l n k
theorem nthR_some : ∀ {l : List AV} {n : Nat} {k : AV → Bool}, nthR l n k = true → ∃ v, nthL n l = some v ∧ k v = true
  | [], _, _, h => by cases h
  | a :: l, 0, k, h => ⟨a, rfl, h⟩
  | a :: l, n + 1, k, h => nthR_some (l := l) (n := n) h
noncomputable def nthNR (l : List Nat) (n : Nat) (k : Nat → Bool) : Bool :=
  @List.rec Nat (fun _ => Nat → (Nat → Bool) → Bool) (fun _ _ => false) (fun a _ ih n k => @Nat.rec (fun _ => Nat → (Nat → (Nat → Bool) → Bool) → (Nat → Bool) → Bool) (fun a _ k => k a) (fun m _ _ ih k => ih m k) n a ih k) l n k
theorem nthNR_some : ∀ {l : List Nat} {n : Nat} {k : Nat → Bool}, nthNR l n k = true → n < l.length ∧ ∃ v, nthN n l = some v ∧ k v = true
  | [], _, _, h => by cases h
  | a :: l, 0, k, h => ⟨by simp, a, rfl, h⟩
  | a :: l, n + 1, k, h => by
    obtain ⟨h1, v, h2, h3⟩ := nthNR_some (l := l) (n := n) h
    exact ⟨by simpa using h1, v, h2, h3⟩
noncomputable def dropR (l : List AV) (n : Nat) (k : List AV → Bool) : Bool :=
  @List.rec AV (fun _ => Nat → (List AV → Bool) → Bool) (fun _ k => k []) (fun a l ih n k => @Nat.rec (fun _ => AV → List AV → (Nat → (List AV → Bool) → Bool) → (List AV → Bool) → Bool) (fun a l _ k => k (a :: l)) (fun m _ _ _ ih k => ih m k) n a l ih k) l n k
theorem dropR_eq : ∀ (l : List AV) (n : Nat) (k : List AV → Bool), dropR l n k = k (l.drop n)
  | [], n, k => by cases n <;> rfl
  | a :: l, 0, k => rfl
  | a :: l, n + 1, k => dropR_eq l n k
noncomputable def takeR (l : List AV) (n : Nat) (k : List AV → Bool) : Bool :=
  @List.rec AV (fun _ => Nat → (List AV → Bool) → Bool) (fun n k => @Nat.rec (fun _ => (List AV → Bool) → Bool) (fun k => k []) (fun _ _ _ => false) n k)
    (fun a _ ih n k => @Nat.rec (fun _ => AV → (Nat → (List AV → Bool) → Bool) → (List AV → Bool) → Bool) (fun _ _ k => k []) (fun m _ a ih k => ih m fun r => k (a :: r)) n a ih k) l n k
theorem takeR_some : ∀ {l : List AV} {n : Nat} {k : List AV → Bool}, takeR l n k = true → ∃ r, takeN n l = some r ∧ k r = true
  | [], 0, k, h => ⟨[], rfl, h⟩
  | [], n + 1, k, h => by cases h
  | a :: l, 0, k, h => ⟨[], rfl, h⟩
  | a :: l, n + 1, k, h => by
    obtain ⟨r, h1, h2⟩ := takeR_some (l := l) (n := n) (k := fun r => k (a :: r)) h
    exact ⟨a :: r, by simp only [takeN, h1], h2⟩
noncomputable def putLK (l : List AV) (n : Nat) (xs : List AV) (k : List AV → Bool) : Bool :=
  @List.rec AV (fun _ => Nat → List AV → (List AV → Bool) → Bool)
    (fun n xs k => @Nat.rec (fun _ => List AV → (List AV → Bool) → Bool) (fun xs k => @List.rec AV (fun _ => (List AV → Bool) → Bool) (fun k => k []) (fun _ _ _ _ => false) xs k) (fun _ _ _ _ => false) n xs k)
    (fun a l ih n xs k => @Nat.rec (fun _ => AV → List AV → (Nat → List AV → (List AV → Bool) → Bool) → List AV → (List AV → Bool) → Bool)
      (fun a l ih xs k => @List.rec AV (fun _ => AV → List AV → (Nat → List AV → (List AV → Bool) → Bool) → (List AV → Bool) → Bool) (fun a l _ k => k (a :: l)) (fun x xs _ _ _ ih k => ih 0 xs fun r => k (x :: r)) xs a l ih k)
      (fun m _ a _ ih xs k => ih m xs fun r => k (a :: r)) n a l ih xs k) l n xs k
theorem putLK_some : ∀ {l : List AV} {n : Nat} {xs : List AV} {k : List AV → Bool}, putLK l n xs k = true → ∃ r, putL n xs l = some r ∧ k r = true
  | [], 0, [], k, h => ⟨[], rfl, h⟩
  | [], 0, _ :: _, k, h => by cases h
  | [], n + 1, _, k, h => by cases h
  | a :: l, 0, [], k, h => ⟨a :: l, rfl, h⟩
  | a :: l, 0, x :: xs, k, h => by
    obtain ⟨r, h1, h2⟩ := putLK_some (l := l) (n := 0) (xs := xs) (k := fun r => k (x :: r)) h
    exact ⟨x :: r, by simp only [putL, h1], h2⟩
  | a :: l, n + 1, xs, k, h => by
    obtain ⟨r, h1, h2⟩ := putLK_some (l := l) (n := n) (xs := xs) (k := fun r => k (a :: r)) h
    exact ⟨a :: r, by simp only [putL, h1], h2⟩
noncomputable def lenR (l : List AV) : Nat := @List.rec AV (fun _ => Nat) 0 (fun _ _ n => Nat.succ n) l
theorem lenR_eq : ∀ l : List AV, lenR l = lenL l
  | [] => rfl
  | _ :: l => congrArg Nat.succ (lenR_eq l)

/-! Blocks. -/
noncomputable def blkK (r : Option Blk) (f : Bool → List AV → Bool) : Bool :=
  @Option.rec Blk (fun _ => (Bool → List AV → Bool) → Bool) (fun _ => false) (fun b f => @Blk.rec (fun _ => (Bool → List AV → Bool) → Bool) (fun ro l f => f ro l) (fun _ _ _ _ _ _ _ => false) (fun _ => false) (fun _ _ => false) (fun _ _ _ => false) b f) r f
theorem blkK_some {r : Option Blk} {f : Bool → List AV → Bool} (h : blkK r f = true) : ∃ ro l, r = some (.cells ro l) ∧ f ro l = true := by
  cases r with
  | none => cases h
  | some b =>
    cases b with
    | cells ro l => exact ⟨_, _, rfl, h⟩
    | loop => cases h
    | dfr => cases h
    | mp => cases h
    | sit => cases h
noncomputable def dfrK (r : Option Blk) (f : Unit → Bool) : Bool :=
  @Option.rec Blk (fun _ => (Unit → Bool) → Bool) (fun _ => false) (fun b f => @Blk.rec (fun _ => (Unit → Bool) → Bool) (fun _ _ _ => false) (fun _ _ _ _ _ _ _ => false) (fun f => f ()) (fun _ _ => false) (fun _ _ _ => false) b f) r f
theorem dfrK_some {r : Option Blk} {f : Unit → Bool} (h : dfrK r f = true) : r = some .dfr ∧ f () = true := by
  cases r with
  | none => cases h
  | some b =>
    cases b with
    | cells ro l => cases h
    | loop => cases h
    | dfr => exact ⟨rfl, h⟩
    | mp => cases h
    | sit => cases h

/-! Guards. -/
noncomputable def guardK (v : AV) (want : Bool) (k0 k1 : Unit → Bool) : Bool :=
  @AV.rec (fun _ => Bool → (Unit → Bool) → (Unit → Bool) → Bool) (fun _ => Unit) (fun q want k0 k1 => @Bool.rec (fun _ => Bool → (Unit → Bool) → (Unit → Bool) → Bool) (fun want k0 k1 => @Bool.rec (fun _ => (Unit → Bool) → (Unit → Bool) → Bool) (fun _ k1 => k1 ()) (fun k0 _ => k0 ()) want k0 k1) (fun want k0 k1 => @Bool.rec (fun _ => (Unit → Bool) → (Unit → Bool) → Bool) (fun k0 _ => k0 ()) (fun _ k1 => k1 ()) want k0 k1) q want k0 k1) (fun _ _ _ _ _ => false) (fun _ _ _ _ _ _ => false) (fun _ _ _ _ => false) (fun _ _ _ _ => false) (fun _ _ _ => false) (fun _ _ _ _ _ => false) (fun _ _ _ => false) (fun _ _ _ _ _ _ _ _ _ => false) (fun _ _ _ => false) (fun _ _ _ _ _ _ _ _ => false) (fun _ _ _ _ => false) (fun _ _ _ _ => false) (fun _ _ _ => false) (fun _ _ _ _ _ _ => false) (fun _ _ _ => false) (fun _ _ _ _ _ => false) (fun l _ _ k0 _ => @List.rec AV (fun _ => (Unit → Bool) → Bool) (fun k0 => k0 ()) (fun _ _ _ _ => false) l k0) (fun _ _ _ => false) () (fun _ _ _ _ => ()) v want k0 k1
noncomputable def wantK (T : PT AV) (g : Option (Pos × Bool)) (k0 k1 : Unit → Bool) : Bool :=
  @Option.rec (Pos × Bool) (fun _ => PT AV → (Unit → Bool) → (Unit → Bool) → Bool) (fun _ _ k1 => k1 ()) (fun q T k0 k1 => @Prod.rec Pos Bool (fun _ => PT AV → (Unit → Bool) → (Unit → Bool) → Bool) (fun p want T k0 k1 => getV p T fun r =>
    @Option.rec AV (fun _ => Bool → (Unit → Bool) → (Unit → Bool) → Bool) (fun _ k0 _ => k0 ()) (fun v want k0 k1 => guardK v want k0 k1) r want k0 k1) q T k0 k1) g T k0 k1
theorem wantK_some {T : PT AV} {g : Option (Pos × Bool)} {k0 k1 : Unit → Bool} (h : wantK T g k0 k1 = true) : (wantA T g = some true ∧ k1 () = true) ∨ (wantA T g = some false ∧ k0 () = true) := by
  cases g with
  | none => exact .inl ⟨rfl, h⟩
  | some q =>
    obtain ⟨p, want⟩ := q
    have h : getV p T (fun r => @Option.rec AV (fun _ => Bool → (Unit → Bool) → (Unit → Bool) → Bool) (fun _ k0 _ => k0 ()) (fun v want k0 k1 => guardK v want k0 k1) r want k0 k1) = true := h
    rw [getV_eq] at h
    unfold wantA
    simp only
    cases hp : PT.get p T with
    | none => rw [hp] at h; exact .inr ⟨rfl, h⟩
    | some v =>
      rw [hp] at h
      have h' : guardK v want k0 k1 = true := h
      clear h hp
      cases v with
      | bool b =>
        cases b <;> cases want
        · exact .inl ⟨rfl, h'⟩
        · exact .inr ⟨rfl, h'⟩
        · exact .inr ⟨rfl, h'⟩
        · exact .inl ⟨rfl, h'⟩
      | tup l =>
        cases l with
        | nil => exact .inr ⟨rfl, h'⟩
        | cons a l => cases h'
      | _ => cases h'

noncomputable def putTK (d : Option Pos) (v : AV) (T : PT AV) (k : PT AV → Bool) : Bool :=
  @Option.rec Pos (fun _ => AV → PT AV → (PT AV → Bool) → Bool) (fun _ T k => k T) (fun p v T k => putV p (some v) T k) d v T k
theorem putTK_eq (d : Option Pos) (v : AV) (T : PT AV) (k : PT AV → Bool) : putTK d v T k = k (putT d v T) := by
  cases d with
  | none => rfl
  | some p => exact putV_eq p _ T k

abbrev CallK := Nat → List AV → AHeap → Pos → (AV → AHeap → Pos → Bool) → Bool
abbrev YieldK := Pos → List AV → AHeap → Pos → (AV → AHeap → Pos → Bool) → Bool

def CallOK (ck : CallK) (cf : CallR) : Prop := ∀ f args H nx k, ck f args H nx k = true → ∃ v H' nx', cf f args H nx = some (v, H', nx') ∧ k v H' nx' = true
def YieldOK (ck : YieldK) (cf : YieldR) : Prop := ∀ f args H nx k, ck f args H nx k = true → ∃ v H' nx', cf f args H nx = some (v, H', nx') ∧ k v H' nx' = true

noncomputable def appK (l : List AV) (m : List AV) (k : List AV → Bool) : Bool :=
  @List.rec AV (fun _ => List AV → (List AV → Bool) → Bool) (fun m k => k m) (fun x _ ih m k => ih m fun r => k (x :: r)) l m k
theorem appK_eq (m : List AV) : ∀ (l : List AV) (k : List AV → Bool), appK l m k = k (l ++ m)
  | [], _ => rfl
  | _ :: l, _ => appK_eq m l _

/-- The function of a function value. -/
noncomputable def fnK (v : AV) (k : Nat → List AV → List AV → Bool) (ky : Pos → Bool) : Bool :=
  @AV.rec (fun _ => (Nat → List AV → List AV → Bool) → (Pos → Bool) → Bool) (fun _ => Unit) (fun _ _ _ => false) (fun _ _ _ _ => false) (fun _ _ _ _ _ => false) (fun _ _ _ => false) (fun _ _ _ => false) (fun _ _ => false) (fun _ _ _ _ => false) (fun _ _ => false) (fun _ _ _ _ _ _ _ _ => false) (fun _ _ => false) (fun f fs cs _ _ k _ => @Fn.rec (fun _ => List AV → List AV → (Nat → List AV → List AV → Bool) → Bool) (fun f fs cs k => k f fs cs) (fun _ _ _ _ => false) (fun _ _ _ _ _ => false) (fun _ _ _ _ _ _ _ => false) (fun _ _ _ _ => false) f fs cs k) (fun id _ ky => ky id) (fun _ _ _ => false) (fun _ _ => false) (fun _ _ _ _ _ => false) (fun _ _ => false) (fun _ _ _ _ => false) (fun _ _ _ _ => false) (fun _ _ => false) () (fun _ _ _ _ => ()) v k ky
theorem fnK_some {v : AV} {k : Nat → List AV → List AV → Bool} {ky : Pos → Bool} (h : fnK v k ky = true) : (∃ f fs cs, v = .fn (.func f) fs cs ∧ k f fs cs = true) ∨ (∃ id, v = .yld id ∧ ky id = true) := by
  cases v <;> try (cases h; done)
  · rename_i f fs cs
    cases f <;> try (cases h; done)
    exact .inl ⟨_, _, _, rfl, h⟩
  · exact .inr ⟨_, rfl, h⟩

noncomputable def callK (ck : CallK) (yk : YieldK) (T : PT AV) (H : AHeap) (nx : Pos) (g : AX) (args : List AX) (k : AV → AHeap → Pos → Bool) : Bool :=
  evK T g fun fv => fnK fv (fun f fs cs => evsK T args fun l => appK l cs fun l => appK fs l fun l => ck f l H nx k) (fun id => evsK T args fun l => yk id l H nx k)

theorem callK_some {ck : CallK} {yk : YieldK} {cf : CallR} {yf : YieldR} (h1 : CallOK ck cf) (h2 : YieldOK yk yf) {T : PT AV} {H : AHeap} {nx : Pos} {g : AX} {args : List AX} {k : AV → AHeap → Pos → Bool}
    (h : callK ck yk T H nx g args k = true) : ∃ v H' nx', opA cf yf (ev T) H nx (.call g args) = some (v, H', nx') ∧ k v H' nx' = true := by
  unfold callK at h
  rw [evK_eq] at h
  rcases fnK_some h with ⟨f, fs, cs, e1, h⟩ | ⟨id, e1, h⟩
  · rw [evsK_eq, appK_eq, appK_eq] at h
    obtain ⟨v, H', nx', e2, e3⟩ := h1 _ _ _ _ _ h
    exact ⟨v, H', nx', by simp only [opA, e1]; exact e2, e3⟩
  · rw [evsK_eq] at h
    obtain ⟨v, H', nx', e2, e3⟩ := h2 _ _ _ _ _ h
    exact ⟨v, H', nx', by simp only [opA, e1]; exact e2, e3⟩

/-! Integers. -/
noncomputable def kno (k : IntKind) : Nat := @IntKind.rec (fun _ => Nat) (nat_lit 0) (nat_lit 1) (nat_lit 2) (nat_lit 3) (nat_lit 4) (nat_lit 5) (nat_lit 6) (nat_lit 7) k
theorem kno_inj {a b : IntKind} (h : Nat.beq (kno a) (kno b) = true) : a = b := by cases a <;> cases b <;> first | rfl | cases h
noncomputable def kmax (k : IntKind) : Nat := @IntKind.rec (fun _ => Nat) (nat_lit 127) (nat_lit 32767) (nat_lit 2147483647) (nat_lit 9223372036854775807) (nat_lit 255) (nat_lit 65535) (nat_lit 4294967295) (nat_lit 18446744073709551615) k
noncomputable def kbits (k : IntKind) : Nat := @IntKind.rec (fun _ => Nat) (nat_lit 8) (nat_lit 16) (nat_lit 32) (nat_lit 64) (nat_lit 8) (nat_lit 16) (nat_lit 32) (nat_lit 64) k
theorem wrap_fit {k : IntKind} {n : Nat} (h : Nat.ble n (kmax k) = true) : k.wrap (n : Int) = n := by
  rw [Nat.ble_eq] at h
  cases k <;> simp [IntKind.wrap, IntKind.bits, IntKind.signed]
  · have h : n ≤ 127 := h; omega
  · have h : n ≤ 32767 := h; omega
  · have h : n ≤ 2147483647 := h; omega
  · have h : n ≤ 9223372036854775807 := h; omega
  · have h : n ≤ 255 := h; omega
  · have h : n ≤ 65535 := h; omega
  · have h : n ≤ 4294967295 := h; omega
  · have h : n ≤ 18446744073709551615 := h; omega

/-- A result that fits. -/
noncomputable def fitK (k : IntKind) (s : Nat) (K : AV → Bool) (g : Unit → Bool) : Bool := natK s fun s => iteK (Nat.ble s (kmax k)) (fun _ => K (.int k (.ofNat s))) g
theorem fitK_some {k : IntKind} {s : Nat} {K : AV → Bool} {g : Unit → Bool} (h : fitK k s K g = true) : (k.wrap (s : Int) = s ∧ K (.int k (.ofNat s)) = true) ∨ g () = true := by
  unfold fitK at h
  rw [natK_eq] at h
  rcases iteK_some h with ⟨h1, h2⟩ | ⟨_, h2⟩
  · exact .inl ⟨wrap_fit h1, h2⟩
  · exact .inr h2
noncomputable def yesK (b : Bool) (K : AV → Bool) : Bool := @Bool.rec (fun _ => (AV → Bool) → Bool) (fun K => K (.bool false)) (fun K => K (.bool true)) b K
theorem yesK_eq (b : Bool) (K : AV → Bool) : yesK b K = K (.bool b) := by cases b <;> rfl
noncomputable def notK (b : Bool) (K : AV → Bool) : Bool := @Bool.rec (fun _ => (AV → Bool) → Bool) (fun K => K (.bool true)) (fun K => K (.bool false)) b K
theorem notK_eq (b : Bool) (K : AV → Bool) : notK b K = K (.bool (!b)) := by cases b <;> rfl

/-- Two integers that are not negative, of one kind. -/
noncomputable def natsK (op : BinOp) (k : IntKind) (n m : Nat) (K : AV → Bool) (g : Unit → Bool) : Bool :=
  @BinOp.rec (fun _ => IntKind → Nat → Nat → (AV → Bool) → (Unit → Bool) → Bool)
    (fun k n m K g => fitK k (Nat.add n m) K g)
    (fun k n m K g => iteK (Nat.ble m n) (fun _ => fitK k (Nat.sub n m) K g) g)
    (fun k n m K g => fitK k (Nat.mul n m) K g)
    (fun k n m K g => iteK (Nat.beq m 0) g (fun _ => fitK k (Nat.div n m) K g))
    (fun k n m K g => iteK (Nat.beq m 0) g (fun _ => natK (Nat.mod n m) fun s => K (.int k (.ofNat s))))
    (fun _ _ _ _ g => g ()) (fun _ _ _ _ g => g ()) (fun _ _ _ _ g => g ()) (fun _ _ _ _ g => g ()) (fun _ _ _ _ g => g ()) (fun _ _ _ _ g => g ())
    (fun _ n m K _ => yesK (Nat.beq n m) K)
    (fun _ n m K _ => notK (Nat.beq n m) K)
    (fun _ n m K _ => yesK (Nat.ble (Nat.succ n) m) K)
    (fun _ n m K _ => yesK (Nat.ble n m) K)
    (fun _ n m K _ => yesK (Nat.ble (Nat.succ m) n) K)
    (fun _ n m K _ => yesK (Nat.ble m n) K) op k n m K g

theorem beq_int (n m : Nat) : ((n : Int) == (m : Int)) = Nat.beq n m := by
  rw [Bool.eq_iff_iff]; simp [Nat.beq_eq]; omega
theorem blt_int (n m : Nat) : decide ((n : Int) < (m : Int)) = Nat.ble (Nat.succ n) m := by
  rw [Bool.eq_iff_iff]; simp; omega
theorem ble_int (n m : Nat) : decide ((n : Int) ≤ (m : Int)) = Nat.ble n m := by
  rw [Bool.eq_iff_iff]; simp

theorem natsK_some {op : BinOp} {k : IntKind} {n m : Nat} {K : AV → Bool} {g : Unit → Bool} (h : natsK op k n m K g = true) : (∃ v, binI op k (.ofNat n) k (.ofNat m) = some v ∧ K v = true) ∨ g () = true := by
  have fin : ∀ {s : Nat}, arith op k (.ofNat n) (.ofNat m) = some (k.wrap (s : Int)) → op ≠ .shl → op ≠ .shr → fitK k s K g = true → (∃ v, binI op k (.ofNat n) k (.ofNat m) = some v ∧ K v = true) ∨ g () = true := by
    intro s e n1 n2 h
    rcases fitK_some h with ⟨h1, h2⟩ | h2
    · refine .inl ⟨_, ?_, h2⟩
      have : binI op k (.ofNat n) k (.ofNat m) = mkInt k (k.wrap (s : Int)) := by
        unfold binI
        split
        · exact absurd rfl n1
        · exact absurd rfl n2
        · rw [if_pos rfl, e]
      rw [this, h1, mkInt_eq]; rfl
    · exact .inr h2
  have cmp : ∀ {r : Bool}, arith op k (.ofNat n) (.ofNat m) = none → cmpI op (.ofNat n) (.ofNat m) = some r → op ≠ .shl → op ≠ .shr → K (.bool r) = true → (∃ v, binI op k (.ofNat n) k (.ofNat m) = some v ∧ K v = true) ∨ g () = true := by
    intro r e1 e2 n1 n2 h
    refine .inl ⟨_, ?_, h⟩
    unfold binI
    split
    · exact absurd rfl n1
    · exact absurd rfl n2
    · rw [if_pos rfl, e1]; simp only [e2]; exact mkBool_eq r
  cases op
  case add => exact fin (s := n + m) (by simp only [arith]; congr 1) (by simp) (by simp) h
  case sub =>
    rcases iteK_some h with ⟨h1, h2⟩ | ⟨_, h2⟩
    · rw [Nat.ble_eq] at h1
      exact fin (s := n - m) (by simp only [arith]; congr 2; simp only [Int.ofNat_eq_natCast]; omega) (by simp) (by simp) h2
    · exact .inr h2
  case mul => exact fin (s := n * m) (by simp only [arith]; congr 1) (by simp) (by simp) h
  case quo =>
    rcases iteK_some h with ⟨_, h2⟩ | ⟨h1, h2⟩
    · exact .inr h2
    · have hm : ¬ (Int.ofNat m = 0) := by
        intro e
        have : m = 0 := by simpa using e
        subst this; cases h1
      exact fin (s := n / m) (by simp only [arith, if_neg hm]; congr 1) (by simp) (by simp) h2
  case rem =>
    rcases iteK_some h with ⟨_, h2⟩ | ⟨h1, h2⟩
    · exact .inr h2
    · have hm : ¬ (Int.ofNat m = 0) := by
        intro e
        have : m = 0 := by simpa using e
        subst this; cases h1
      rw [natK_eq] at h2
      refine .inl ⟨_, ?_, h2⟩
      simp only [binI, arith, if_neg hm, if_true, mkInt_eq]
      rfl
  case eql => rw [show natsK .eql k n m K g = yesK (Nat.beq n m) K from rfl, yesK_eq] at h; exact cmp rfl (by simp only [cmpI]; exact congrArg some (beq_int n m)) (by simp) (by simp) h
  case neq =>
    rw [show natsK .neq k n m K g = notK (Nat.beq n m) K from rfl, notK_eq] at h
    exact cmp rfl (by simp only [cmpI, bne]; exact congrArg some (congrArg _ (beq_int n m))) (by simp) (by simp) h
  case lss => rw [show natsK .lss k n m K g = yesK (Nat.ble (Nat.succ n) m) K from rfl, yesK_eq] at h; exact cmp rfl (by simp only [cmpI]; exact congrArg some (blt_int n m)) (by simp) (by simp) h
  case leq => rw [show natsK .leq k n m K g = yesK (Nat.ble n m) K from rfl, yesK_eq] at h; exact cmp rfl (by simp only [cmpI]; exact congrArg some (ble_int n m)) (by simp) (by simp) h
  case gtr => rw [show natsK .gtr k n m K g = yesK (Nat.ble (Nat.succ m) n) K from rfl, yesK_eq] at h; exact cmp rfl (by simp only [cmpI]; exact congrArg some (blt_int m n)) (by simp) (by simp) h
  case geq => rw [show natsK .geq k n m K g = yesK (Nat.ble m n) K from rfl, yesK_eq] at h; exact cmp rfl (by simp only [cmpI]; exact congrArg some (ble_int m n)) (by simp) (by simp) h
  all_goals exact .inr h

noncomputable def binK (op : BinOp) (ek : EqK) (ks : List Nat) (x y : AV) (K : AV → Bool) : Bool :=
  numK x (fun k n => numK y (fun k' m => iteK (Nat.beq (kno k) (kno k')) (fun _ => natsK op k n m K fun _ => optK (binA op ek ks x y) K) (fun _ => optK (binA op ek ks x y) K)) (fun _ => optK (binA op ek ks x y) K)) (fun _ => optK (binA op ek ks x y) K)
theorem binK_some {op : BinOp} {ek : EqK} {ks : List Nat} {x y : AV} {K : AV → Bool} (h : binK op ek ks x y K = true) : ∃ v, binA op ek ks x y = some v ∧ K v = true := by
  rcases numK_some h with ⟨k, n, rfl, h⟩ | h
  · rcases numK_some h with ⟨k', m, rfl, h⟩ | h
    · rcases iteK_some h with ⟨h1, h⟩ | ⟨_, h⟩
      · obtain rfl := kno_inj h1
        rcases natsK_some h with h | h
        · exact h
        · exact optK_some h
      · exact optK_some h
    · exact optK_some h
  · exact optK_some h

noncomputable def cvK (q : IntKind) (x : AV) (K : AV → Bool) : Bool := numK x (fun _ n => iteK (Nat.ble n (kmax q)) (fun _ => K (.int q (.ofNat n))) fun _ => optK (cvI q x) K) fun _ => optK (cvI q x) K
theorem cvK_some {q : IntKind} {x : AV} {K : AV → Bool} (h : cvK q x K = true) : ∃ v, cvI q x = some v ∧ K v = true := by
  rcases numK_some h with ⟨k, n, rfl, h⟩ | h
  · rcases iteK_some h with ⟨h1, h⟩ | ⟨_, h⟩
    · refine ⟨_, ?_, h⟩
      have := wrap_fit h1
      simp only [cvI, Int.ofNat_eq_natCast, this, mkInt_eq]
    · exact optK_some h
  · exact optK_some h

/-! The operations that touch memory. -/
noncomputable def partK (ag : Bool) (l : List AV) (off n : Nat) (k : AV → Bool) : Bool :=
  @Bool.rec (fun _ => List AV → Nat → Nat → (AV → Bool) → Bool) (fun l off _ k => nthR l off k) (fun l off n k => dropR l off fun m => takeR m n fun r => k (.agg r)) ag l off n k
theorem partK_some {ag : Bool} {l : List AV} {off n : Nat} {k : AV → Bool} (h : partK ag l off n k = true) :
    ∃ v, (match ag with
        | true => match takeN n (l.drop off) with
          | some r => some (.agg r)
          | none => none
        | false => nthL off l) = some v ∧ k v = true := by
  cases ag
  · exact nthR_some h
  · have h : dropR l off (fun m => takeR m n fun r => k (.agg r)) = true := h
    rw [dropR_eq] at h
    obtain ⟨r, h1, h2⟩ := takeR_some h
    exact ⟨.agg r, by simp only [h1], h2⟩

noncomputable def loadK (T : PT AV) (H : AHeap) (ag : Bool) (n : Nat) (a : AX) (k : AV → Bool) : Bool :=
  evK T a fun v => ptrK v fun id off => getB id H fun r => blkK r fun _ l => partK ag l off n k
theorem loadK_some {T : PT AV} {H : AHeap} {ag : Bool} {n : Nat} {a : AX} {k : AV → Bool} (h : loadK T H ag n a k = true) : ∃ v, ldA (ev T) H (.load ag n a) = some v ∧ k v = true := by
  unfold loadK at h
  rw [evK_eq] at h
  obtain ⟨id, off, e1, h⟩ := ptrK_some h
  rw [getB_eq] at h
  obtain ⟨ro, l, e2, h⟩ := blkK_some h
  obtain ⟨v, e3, h⟩ := partK_some h
  exact ⟨v, by simp only [ldA, e1, e2]; exact e3, h⟩

noncomputable def storeK (T : PT AV) (H : AHeap) (n : Nat) (a x : AX) (k : AHeap → Bool) : Bool :=
  evK T a fun p => evK T x fun v => ptrK p fun id off => getB id H fun r => blkK r fun ro l => iteK ro (fun _ => false) fun _ => cellsK v fun xs => allOneK xs fun _ => andK (Nat.beq (lenR xs) n) fun _ => putLK l off xs fun l' => putB id (some (.cells false l')) H k
theorem storeK_some {T : PT AV} {H : AHeap} {n : Nat} {a x : AX} {k : AHeap → Bool} (h : storeK T H n a x k = true) : ∃ H', stA (ev T) H n a x = some H' ∧ k H' = true := by
  unfold storeK at h
  rw [evK_eq, evK_eq] at h
  obtain ⟨id, off, e1, h⟩ := ptrK_some h
  rw [getB_eq] at h
  obtain ⟨ro, l, e2, h⟩ := blkK_some h
  rcases iteK_some h with ⟨_, h⟩ | ⟨rfl, h⟩
  · cases h
  · obtain ⟨e3, h⟩ := cellsK_some h
    obtain ⟨e4, h⟩ := allOneK_some h
    obtain ⟨e5, h⟩ := andK_some h
    obtain ⟨l', e6, h⟩ := putLK_some h
    rw [putB_eq] at h
    have e5 := Nat.eq_of_beq_eq_true e5
    rw [lenR_eq] at e5
    exact ⟨_, by simp only [stA, e1, e2, e3, e5, e4, e6, if_true], h⟩

noncomputable def fillK (T : PT AV) (ps : List (Nat × Nat × AX)) (z : List AV) (k : List AV → Bool) : Bool :=
  @List.rec (Nat × Nat × AX) (fun _ => PT AV → List AV → (List AV → Bool) → Bool) (fun _ z k => k z) (fun q _ ih T z k => @Prod.rec Nat (Nat × AX) (fun _ => PT AV → (PT AV → List AV → (List AV → Bool) → Bool) → List AV → (List AV → Bool) → Bool)
    (fun off q T ih z k => @Prod.rec Nat AX (fun _ => Nat → PT AV → (PT AV → List AV → (List AV → Bool) → Bool) → List AV → (List AV → Bool) → Bool)
      (fun n x off T ih z k => evK T x fun v => cellsK v fun xs => andK (Nat.beq (lenR xs) n) fun _ => putLK z off xs fun z' => ih T z' k) q off T ih z k) q T ih z k) ps T z k
theorem fillK_some {T : PT AV} : ∀ {ps : List (Nat × Nat × AX)} {z : List AV} {k : List AV → Bool}, fillK T ps z k = true → ∃ l, fillA (ev T) ps z = some l ∧ k l = true
  | [], z, k, h => ⟨z, rfl, h⟩
  | (off, n, x) :: ps, z, k, h => by
    have h : evK T x (fun v => cellsK v fun xs => andK (Nat.beq (lenR xs) n) fun _ => putLK z off xs fun z' => fillK T ps z' k) = true := h
    rw [evK_eq] at h
    obtain ⟨e1, h⟩ := cellsK_some h
    obtain ⟨e2, h⟩ := andK_some h
    obtain ⟨z', e3, h⟩ := putLK_some h
    obtain ⟨l, e4, h⟩ := fillK_some h
    have e2 := Nat.eq_of_beq_eq_true e2
    rw [lenR_eq] at e2
    exact ⟨l, by simp only [fillA, e1, e2, e3, e4, if_true], h⟩

/-- A new block. -/
noncomputable def newK (l : List AV) (H : AHeap) (nx : Pos) (v : AV) (k : AV → AHeap → Pos → Bool) : Bool := putB nx (some (.cells false l)) H fun H' => succK nx fun n' => k v H' n'
theorem newK_eq (l : List AV) (H : AHeap) (nx : Pos) (v : AV) (k : AV → AHeap → Pos → Bool) : newK l H nx v k = k v (PT.put nx (some (.cells false l)) H) nx.succ := by
  unfold newK
  rw [putB_eq, succK_eq]

noncomputable def srcK (n : Nat) (H : AHeap) (x : AV) (k : Nat → List AV → Bool) : Bool :=
  slnK x (fun _ => k 0 []) fun id off len _ _ es => andK (Nat.beq es n) fun _ => getB id H fun r => blkK r fun _ l => dropR l off fun l => takeR l (Nat.mul len n) fun r => k len r
theorem srcK_some {n : Nat} {H : AHeap} {x : AV} {k : Nat → List AV → Bool} (h : srcK n H x k = true) : ∃ m r, srcA n H x = some (m, r) ∧ k m r = true := by
  rcases slnK_some h with ⟨rfl, h⟩ | ⟨id, off, len, ex, cap, es, rfl, h⟩
  · exact ⟨_, _, rfl, h⟩
  · obtain ⟨e1, h⟩ := andK_some h
    rw [getB_eq] at h
    obtain ⟨ro, l, e2, h⟩ := blkK_some h
    rw [dropR_eq] at h
    obtain ⟨r, e3, h⟩ := takeR_some h
    exact ⟨len, r, by simp only [srcA, Nat.eq_of_beq_eq_true e1, e2, if_true]; rw [show len * n = Nat.mul len n from rfl, e3], h⟩

noncomputable def apK (H : AHeap) (nx : Pos) (n b : Nat) (s x : AV) (k : AV → AHeap → Pos → Bool) : Bool :=
  srcK n H x fun m news => allOneK news fun _ => slnK s
    (fun _ => iteK (Nat.beq m 0) (fun _ => k .nilsl H nx) fun _ => andK (Nat.ble (Nat.mul m b) 140737488355328) fun _ => andK (Nat.ble m 4611686018427387904) fun _ => natK m fun m => newK news H nx (.sl nx 0 m false m n) k)
    fun id off len ex cap es => andK (Nat.beq es n) fun _ => andK (Nat.ble len cap) fun _ => iteK (Nat.beq m 0) (fun _ => k (.sl id off len ex cap es) H nx) fun _ =>
      iteK (Nat.ble (Nat.add len m) cap)
        (fun _ => getB id H fun r => blkK r fun ro l => iteK ro (fun _ => false) fun _ => putLK l (Nat.add off (Nat.mul len n)) news fun l' => natK (Nat.add len m) fun q => putB id (some (.cells false l')) H fun H' => k (.sl id off q ex cap es) H' nx)
        fun _ => andK (Nat.ble (Nat.mul (Nat.add len m) b) 140737488355328) fun _ => andK (Nat.ble (Nat.add len m) 4611686018427387904) fun _ => getB id H fun r => blkK r fun ro l => dropR l off fun l => takeR l (Nat.mul len n) fun olds => natK (Nat.add len m) fun q => appK olds news fun all =>
          iteK ex (fun _ => newK all H nx (.sl nx 0 q false q n) k) fun _ => iteK ro (fun _ => false) fun _ => putB id none H fun H' => newK all H' nx (.sl nx 0 q false q n) k
theorem apK_some {H : AHeap} {nx : Pos} {n b : Nat} {s x : AV} {k : AV → AHeap → Pos → Bool} (h0 : apK H nx n b s x k = true) : ∃ v H' nx', apA H nx n b s x = some (v, H', nx') ∧ k v H' nx' = true := by
  unfold apK at h0
  obtain ⟨m, news, e1, h1⟩ := srcK_some h0
  clear h0
  obtain ⟨e2, h⟩ := allOneK_some h1
  clear h1
  unfold apA
  rw [e1]
  simp only [e2]
  rcases slnK_some h with ⟨rfl, h2⟩ | ⟨id, off, len, ex, cap, es, rfl, h2⟩ <;> clear h
  · dsimp only
    rcases iteK_some h2 with ⟨e3, h3⟩ | ⟨e3, h3⟩ <;> clear h2
    · rw [if_pos (Nat.eq_of_beq_eq_true e3)]
      exact ⟨_, _, _, rfl, h3⟩
    · obtain ⟨e4, h4⟩ := andK_some h3
      obtain ⟨e5, h5⟩ := andK_some h4
      rw [natK_eq, newK_eq] at h5
      rw [Nat.ble_eq] at e4 e5
      have hm : ¬ m = 0 := fun e => by subst e; cases e3
      rw [if_neg hm, if_pos ⟨e4, e5⟩, frcN_eq]
      exact ⟨_, _, _, rfl, h5⟩
  · obtain ⟨e3, h3⟩ := andK_some h2
    obtain ⟨e4, h4⟩ := andK_some h3
    clear h2 h3
    have e3 := Nat.eq_of_beq_eq_true e3
    rw [Nat.ble_eq] at e4
    dsimp only
    rw [if_pos (⟨e3, e4⟩ : es = n ∧ len ≤ cap)]
    rcases iteK_some h4 with ⟨e5, h5⟩ | ⟨e5, h5⟩ <;> clear h4
    · rw [if_pos (Nat.eq_of_beq_eq_true e5)]
      exact ⟨_, _, _, rfl, h5⟩
    · have hm : ¬ m = 0 := fun e => by subst e; cases e5
      rw [if_neg hm]
      rcases iteK_some h5 with ⟨e6, h6⟩ | ⟨e6, h6⟩ <;> clear h5
      · rw [Nat.ble_eq] at e6
        rw [getB_eq] at h6
        obtain ⟨ro, l, e7, h7⟩ := blkK_some h6
        clear h6
        rcases iteK_some h7 with ⟨_, h8⟩ | ⟨rfl, h8⟩
        · cases h8
        · obtain ⟨l', e8, h9⟩ := putLK_some h8
          rw [natK_eq, putB_eq] at h9
          have e8' : putL (off + len * n) news l = some l' := e8
          have e6' : len + m ≤ cap := e6
          rw [if_pos e6', e7]
          simp only [e8', frcN_eq]
          exact ⟨_, _, _, rfl, h9⟩
      · have hn : ¬ len + m ≤ cap := fun e => by rw [show Nat.ble (Nat.add len m) cap = true from by rw [Nat.ble_eq]; exact e] at e6; cases e6
        obtain ⟨e7, h7⟩ := andK_some h6
        obtain ⟨e8, h8⟩ := andK_some h7
        clear h6 h7
        rw [Nat.ble_eq] at e7 e8
        rw [getB_eq] at h8
        obtain ⟨ro, l, e9, h9⟩ := blkK_some h8
        clear h8
        rw [dropR_eq] at h9
        obtain ⟨olds, e10, h10⟩ := takeR_some h9
        clear h9
        rw [natK_eq, appK_eq] at h10
        have e10' : takeN (len * n) (l.drop off) = some olds := e10
        have e7' : (len + m) * b ≤ 140737488355328 ∧ len + m ≤ 4611686018427387904 := ⟨e7, e8⟩
        rw [if_neg hn, if_pos e7', e9]
        simp only [e10']
        rcases iteK_some h10 with ⟨rfl, h11⟩ | ⟨rfl, h11⟩
        · rw [newK_eq] at h11
          simp only [frcN_eq]
          exact ⟨_, _, _, rfl, h11⟩
        · rcases iteK_some h11 with ⟨_, h12⟩ | ⟨rfl, h12⟩
          · cases h12
          · rw [putB_eq, newK_eq] at h12
            simp only [frcN_eq]
            exact ⟨_, _, _, rfl, h12⟩

/-! The others. -/
/-- An index within bounds. -/
noncomputable def idxK (x : AV) (n : Nat) (k : Nat → Bool) : Bool := numK x (fun _ i => andK (Nat.ble (Nat.succ i) n) fun _ => k i) fun _ => false
theorem idxK_some {x : AV} {n : Nat} {k : Nat → Bool} (h : idxK x n k = true) : ∃ i, (∀ f : Nat → Option AV, idx x n f = f i) ∧ k i = true := by
  rcases numK_some h with ⟨q, i, rfl, h⟩ | h
  · obtain ⟨e1, h⟩ := andK_some h
    rw [Nat.ble_eq] at e1
    exact ⟨i, fun f => by simp only [idx]; rw [if_pos (by omega)], h⟩
  · cases h

noncomputable def lenK (q : Nat) (x : AV) (k : AV → Bool) (g : Unit → Bool) : Bool :=
  iteK (Nat.beq q 1) (fun _ => slnK x (fun _ => k (.int .i64 (.ofNat 0))) fun _ _ len _ _ _ => k (.int .i64 (.ofNat len))) g

noncomputable def pickK (T : PT AV) (c a b : AX) (k : AV → Bool) : Bool := evK T c fun v => boolK v (fun _ => evK T a k) fun _ => evK T b k

abbrev KO := AV → AHeap → Pos → Bool
abbrev OpK := CallK → YieldK → PT AV → AHeap → Pos → KO → Bool
noncomputable def oMov (x : AX) : OpK := fun _ _ T H nx k => evK T x fun v => k v H nx
noncomputable def oPick (c a b : AX) : OpK := fun _ _ T H nx k => pickK T c a b fun v => k v H nx
noncomputable def oNew (z : List AV) : OpK := fun _ _ _ H nx k => newK z H nx (.ptr nx 0) k
noncomputable def oBox (x : AX) : OpK := fun _ _ T H nx k => evK T x fun v => cellsK v fun l => newK l H nx (.ptr nx 0) k
noncomputable def oBuild (z : List AV) (ps : List (Nat × Nat × AX)) : OpK := fun _ _ T H nx k => fillK T ps z fun l => k (.agg l) H nx
noncomputable def oMksl (z : List AV) (len es : Nat) (ps : List (Nat × Nat × AX)) : OpK := fun _ _ T H nx k => fillK T ps z fun l => newK l H nx (.sl nx 0 len true len es) k
noncomputable def oLoad (ag : Bool) (n : Nat) (a : AX) : OpK := fun _ _ T H nx k => loadK T H ag n a fun v => k v H nx
noncomputable def oStore (n : Nat) (a x : AX) : OpK := fun _ _ T H nx k => storeK T H n a x fun H' => k undefA H' nx
noncomputable def oNil (x : AX) : OpK := fun _ _ T H nx k => evK T x fun v => optK (nilchkA v) fun v => k v H nx
noncomputable def oBin (op : BinOp) (ek : EqK) (ks : List Nat) (x y : AX) : OpK := fun _ _ T H nx k => evK T x fun a => evK T y fun b => binK op ek ks a b fun v => k v H nx
noncomputable def oUn (op : UnOp) (x : AX) : OpK := fun _ _ T H nx k => evK T x fun a => optK (unA op a) fun v => k v H nx
noncomputable def oCvi (q : IntKind) (x : AX) : OpK := fun _ _ T H nx k => evK T x fun a => cvK q a fun v => k v H nx
noncomputable def oCvs (x : AX) : OpK := fun _ _ T H nx k => evK T x fun a => optK (cvS a) fun v => k v H nx
noncomputable def oS2b (x : AX) : OpK := fun _ _ T H nx k => optK (alA (evR T) (.s2b x)) fun q => newK q.1 H nx (resA nx q.2) k
noncomputable def oB2s (x : AX) : OpK := fun _ _ T H nx k => optK (ldA (evR T) H (.b2s x)) fun v => k v H nx
noncomputable def oMkif (t : TypeId) (x : AX) : OpK := fun _ _ T H nx k => evK T x fun a => k (.ifc t a) H nx
noncomputable def oMkfn (f : Fn) (fs cs : List AX) : OpK := fun _ _ T H nx k => evsK T fs fun a => evsK T cs fun b => k (.fn f a b) H nx
noncomputable def oSlS (s : Nat) (x : AX) (lo hi : Option AX) : OpK := fun _ _ T H nx k => optK (puA (evR T) (.slS s x lo hi)) fun v => k v H nx
noncomputable def oSlStr (x : AX) (lo hi : Option AX) : OpK := fun _ _ T H nx k => optK (puA (evR T) (.slStr x lo hi)) fun v => k v H nx
noncomputable def oSlA (len s : Nat) (x : AX) (lo hi : Option AX) : OpK := fun _ _ T H nx k => optK (ldA (evR T) H (.slA len s x lo hi)) fun v => k v H nx
noncomputable def oFadr (off : Nat) (x : AX) : OpK := fun _ _ T H nx k => evK T x fun v => ptrK v fun id o => natK (Nat.add o off) fun o => k (.ptr id o) H nx
noncomputable def oFld (ag : Bool) (off n : Nat) (x : AX) : OpK := fun _ _ T H nx k => evK T x fun v => aggK v fun l => partK ag l off n fun v => k v H nx
noncomputable def oIxS (s : Nat) (x ix : AX) : OpK := fun _ _ T H nx k => evK T x fun v => evK T ix fun i => slK v fun id off len _ _ es => andK (Nat.beq es s) fun _ => idxK i len fun i => natK (Nat.add off (Nat.mul i s)) fun o => k (.ptr id o) H nx
noncomputable def oIxA (n s : Nat) (x ix : AX) : OpK := fun _ _ T H nx k => evK T x fun v => evK T ix fun i => ptrK v fun id o => idxK i n fun i => natK (Nat.add o (Nat.mul i s)) fun o => k (.ptr id o) H nx
noncomputable def oIxv (ag : Bool) (n s : Nat) (x ix : AX) : OpK := fun _ _ T H nx k => evK T x fun v => evK T ix fun i => idxK i n fun i => aggK v fun l => natK (Nat.mul i s) fun o => partK ag l o s fun v => k v H nx
noncomputable def oIxstr (x ix : AX) : OpK := fun _ _ T H nx k => evK T x fun v => evK T ix fun i => strK v fun l => numK i (fun _ i => nthNR l i fun b => k (.int .u8 (.ofNat b)) H nx) fun _ => false
noncomputable def oExtr (i : Nat) (x : AX) : OpK := fun _ _ T H nx k => evK T x fun v => tupK v fun l => nthR l i fun v => k v H nx
noncomputable def oCall (g : AX) (args : List AX) : OpK := fun ck yk T H nx k => callK ck yk T H nx g args k
noncomputable def oLen (q : Nat) (x : AX) : OpK := fun _ _ T H nx k => iteK (Nat.beq q 1) (fun _ => evK T x fun v => slnK v (fun _ => k (.int .i64 (.ofNat 0)) H nx) fun _ _ len _ _ _ => k (.int .i64 (.ofNat len)) H nx) fun _ => optK (puA (evR T) (.len q x)) fun v => k v H nx
noncomputable def oCap (x : AX) : OpK := fun _ _ T H nx k => optK (puA (evR T) (.cap x)) fun v => k v H nx
noncomputable def oApp (n b : Nat) (s x : AX) : OpK := fun _ _ T H nx k => evK T s fun s => evK T x fun x => apK H nx n b s x k
noncomputable def oExt (q : XOp) (xs : List AX) : OpK := fun _ _ T H nx k => evsK T xs fun l => optK (extA q l H nx) fun r => k r.1 r.2.1 r.2.2
noncomputable def oNo : OpK := fun _ _ _ _ _ _ => false

/-- One operation. -/
noncomputable def opK (ck : CallK) (yk : YieldK) (T : PT AV) (H : AHeap) (nx : Pos) (op : AOp) (k : KO) : Bool :=
  @AOp.rec (fun _ => OpK) oMov oPick oNew oBox oBuild oMksl oLoad oStore oNil oBin oUn oCvi oCvs oS2b oB2s oMkif oMkfn oSlS oSlStr oSlA oFadr oFld oIxS oIxA oIxv oIxstr oExtr oCall oLen oCap oApp (fun _ _ _ _ => oNo) oExt oNo op ck yk T H nx k

theorem opK_some {ck : CallK} {yk : YieldK} {cf : CallR} {yf : YieldR} (h1 : CallOK ck cf) (h2 : YieldOK yk yf) {T : PT AV} {H : AHeap} {nx : Pos} {op : AOp} {k : AV → AHeap → Pos → Bool}
    (h : opK ck yk T H nx op k = true) : ∃ v H' nx', opA cf yf (ev T) H nx op = some (v, H', nx') ∧ k v H' nx' = true := by
  cases op
  case mov x => have h : oMov x ck yk T H nx k = true := h; unfold oMov at h; rw [evK_eq] at h; exact ⟨_, _, _, rfl, h⟩
  case pick c a b =>
    have h : oPick c a b ck yk T H nx k = true := h
    unfold oPick pickK at h
    rw [evK_eq] at h
    rcases boolK_some h with ⟨e, h⟩ | ⟨e, h⟩ <;> rw [evK_eq] at h
    · exact ⟨_, _, _, by simp only [opA, puA, e], h⟩
    · exact ⟨_, _, _, by simp only [opA, puA, e], h⟩
  case new z => have h : newK z H nx (.ptr nx 0) k = true := h; rw [newK_eq] at h; exact ⟨_, _, _, rfl, h⟩
  case box x =>
    have h : oBox x ck yk T H nx k = true := h
    unfold oBox at h
    rw [evK_eq] at h
    obtain ⟨e, h⟩ := cellsK_some h
    rw [newK_eq] at h
    exact ⟨_, _, _, by simp only [opA, alA, e]; rfl, h⟩
  case build z ps => obtain ⟨l, e, h⟩ := fillK_some h; exact ⟨_, _, _, by simp only [opA, puA, e], h⟩
  case mksl z len es ps => obtain ⟨l, e, h⟩ := fillK_some h; rw [newK_eq] at h; exact ⟨_, _, _, by simp only [opA, alA, e]; rfl, h⟩
  case load ag n a => obtain ⟨v, e, h⟩ := loadK_some h; exact ⟨_, _, _, by simp only [opA, e], h⟩
  case store n a x => obtain ⟨v, e, h⟩ := storeK_some h; exact ⟨_, _, _, by simp only [opA, e], h⟩
  case nilchk x => have h : oNil x ck yk T H nx k = true := h; unfold oNil at h; rw [evK_eq] at h; obtain ⟨v, e, h⟩ := optK_some h; exact ⟨_, _, _, by simp only [opA, puA, e], h⟩
  case bin op ek ks x y =>
    have h : oBin op ek ks x y ck yk T H nx k = true := h
    unfold oBin at h
    rw [evK_eq, evK_eq] at h
    obtain ⟨v, e, h⟩ := binK_some h; exact ⟨_, _, _, by simp only [opA, puA, e], h⟩
  case un op x => have h : oUn op x ck yk T H nx k = true := h; unfold oUn at h; rw [evK_eq] at h; obtain ⟨v, e, h⟩ := optK_some h; exact ⟨_, _, _, by simp only [opA, puA, e], h⟩
  case cvi op x => have h : oCvi op x ck yk T H nx k = true := h; unfold oCvi at h; rw [evK_eq] at h; obtain ⟨v, e, h⟩ := cvK_some h; exact ⟨_, _, _, by simp only [opA, puA, e], h⟩
  case cvs x => have h : oCvs x ck yk T H nx k = true := h; unfold oCvs at h; rw [evK_eq] at h; obtain ⟨v, e, h⟩ := optK_some h; exact ⟨_, _, _, by simp only [opA, puA, e], h⟩
  case s2b x => have h : oS2b x ck yk T H nx k = true := h; unfold oS2b at h; rw [evR_eq] at h; obtain ⟨⟨l, r⟩, e, h⟩ := optK_some h; rw [newK_eq] at h; exact ⟨_, _, _, by simp only [opA, e], h⟩
  case b2s x => have h : oB2s x ck yk T H nx k = true := h; unfold oB2s at h; rw [evR_eq] at h; obtain ⟨v, e, h⟩ := optK_some h; exact ⟨_, _, _, by simp only [opA, e], h⟩
  case mkif t x => have h : oMkif t x ck yk T H nx k = true := h; unfold oMkif at h; rw [evK_eq] at h; exact ⟨_, _, _, rfl, h⟩
  case mkfn f fs cs => have h : oMkfn f fs cs ck yk T H nx k = true := h; unfold oMkfn at h; rw [evsK_eq, evsK_eq] at h; exact ⟨_, _, _, rfl, h⟩
  case slS s x lo hi => have h : oSlS s x lo hi ck yk T H nx k = true := h; unfold oSlS at h; rw [evR_eq] at h; obtain ⟨v, e, h⟩ := optK_some h; exact ⟨_, _, _, by simp only [opA, e], h⟩
  case slStr x lo hi => have h : oSlStr x lo hi ck yk T H nx k = true := h; unfold oSlStr at h; rw [evR_eq] at h; obtain ⟨v, e, h⟩ := optK_some h; exact ⟨_, _, _, by simp only [opA, e], h⟩
  case slA len s x lo hi => have h : oSlA len s x lo hi ck yk T H nx k = true := h; unfold oSlA at h; rw [evR_eq] at h; obtain ⟨v, e, h⟩ := optK_some h; exact ⟨_, _, _, by simp only [opA, e], h⟩
  case fadr off x =>
    have h : oFadr off x ck yk T H nx k = true := h
    unfold oFadr at h
    rw [evK_eq] at h
    obtain ⟨id, o, e, h⟩ := ptrK_some h
    rw [natK_eq] at h
    exact ⟨_, _, _, by simp only [opA, puA, e, frcN_eq]; rfl, h⟩
  case fld ag off n x =>
    have h : oFld ag off n x ck yk T H nx k = true := h
    unfold oFld at h
    rw [evK_eq] at h
    obtain ⟨l, e, h⟩ := aggK_some h
    obtain ⟨v, e2, h⟩ := partK_some h
    have e3 : puA (ev T) (.fld ag off n x) = some v := by simp only [puA, fldA, e]; exact e2
    exact ⟨_, _, _, by simp only [opA, e3], h⟩
  case ixS s x ix =>
    have h : oIxS s x ix ck yk T H nx k = true := h
    unfold oIxS at h
    rw [evK_eq, evK_eq] at h
    obtain ⟨id, off, len, ex, cap, es, e, h⟩ := slK_some h
    obtain ⟨e2, h⟩ := andK_some h
    obtain ⟨i, e3, h⟩ := idxK_some h
    rw [natK_eq] at h
    have e4 : puA (ev T) (.ixS s x ix) = some (.ptr id (off + i * s)) := by simp only [puA, e, Nat.eq_of_beq_eq_true e2, if_true, e3, frcN_eq]
    exact ⟨_, _, _, by simp only [opA, e4]; rfl, h⟩
  case ixA n s x ix =>
    have h : oIxA n s x ix ck yk T H nx k = true := h
    unfold oIxA at h
    rw [evK_eq, evK_eq] at h
    obtain ⟨id, o, e, h⟩ := ptrK_some h
    obtain ⟨i, e3, h⟩ := idxK_some h
    rw [natK_eq] at h
    have e4 : puA (ev T) (.ixA n s x ix) = some (.ptr id (o + i * s)) := by simp only [puA, e, e3, frcN_eq]
    exact ⟨_, _, _, by simp only [opA, e4]; rfl, h⟩
  case ixv ag n s x ix =>
    have h : oIxv ag n s x ix ck yk T H nx k = true := h
    unfold oIxv at h
    rw [evK_eq, evK_eq] at h
    obtain ⟨i, e3, h⟩ := idxK_some h
    obtain ⟨l, e, h⟩ := aggK_some h
    rw [natK_eq] at h
    obtain ⟨v, e2, h⟩ := partK_some h
    have e4 : puA (ev T) (.ixv ag n s x ix) = some v := by simp only [puA, e3, fldA, e]; exact e2
    exact ⟨_, _, _, by simp only [opA, e4], h⟩
  case ixstr x ix =>
    have h : oIxstr x ix ck yk T H nx k = true := h
    unfold oIxstr at h
    rw [evK_eq, evK_eq] at h
    obtain ⟨l, e, h⟩ := strK_some h
    rcases numK_some h with ⟨q, i, e2, h⟩ | h
    · obtain ⟨hi, b, e3, h⟩ := nthNR_some h
      have e4 : puA (ev T) (.ixstr x ix) = some (.int .u8 (.ofNat b)) := by simp only [puA, e, e2, idx]; rw [if_pos hi, e3]
      exact ⟨_, _, _, by simp only [opA, e4], h⟩
    · cases h
  case extr i x =>
    have h : oExtr i x ck yk T H nx k = true := h
    unfold oExtr at h
    rw [evK_eq] at h
    obtain ⟨l, e, h⟩ := tupK_some h
    obtain ⟨v, e2, h⟩ := nthR_some h
    have e4 : puA (ev T) (.extr i x) = some v := by simp only [puA, e, e2]
    exact ⟨_, _, _, by simp only [opA, e4], h⟩
  case call g args => exact callK_some h1 h2 h
  case len q x =>
    have h : oLen q x ck yk T H nx k = true := h
    unfold oLen at h
    rcases iteK_some h with ⟨e1, g⟩ | ⟨_, g⟩
    · rw [evK_eq] at g
      have e1 := Nat.eq_of_beq_eq_true e1
      rcases slnK_some g with ⟨e, g2⟩ | ⟨id, off, len, ex, cap, es, e, g2⟩
      · have e4 : puA (ev T) (.len q x) = some (.int .i64 (.ofNat 0)) := by simp only [puA, e, e1, if_true]
        exact ⟨_, _, _, by simp only [opA, e4], g2⟩
      · have e4 : puA (ev T) (.len q x) = some (.int .i64 (.ofNat len)) := by simp only [puA, e, e1, if_true]
        exact ⟨_, _, _, by simp only [opA, e4], g2⟩
    · rw [evR_eq] at g; obtain ⟨v, e, g2⟩ := optK_some g; exact ⟨_, _, _, by simp only [opA, e], g2⟩
  case cap x => have h : oCap x ck yk T H nx k = true := h; unfold oCap at h; rw [evR_eq] at h; obtain ⟨v, e, h⟩ := optK_some h; exact ⟨_, _, _, by simp only [opA, e], h⟩
  case app n b s x =>
    have h : oApp n b s x ck yk T H nx k = true := h
    unfold oApp at h
    rw [evK_eq, evK_eq] at h
    obtain ⟨v, H', nx', e, h⟩ := apK_some h; exact ⟨_, _, _, by simp only [opA, e], h⟩
  case ext q xs =>
    have h : oExt q xs ck yk T H nx k = true := h
    unfold oExt at h
    rw [evsK_eq] at h
    obtain ⟨⟨v, H', nx'⟩, e, h⟩ := optK_some h
    exact ⟨_, _, _, by simp only [opA, e], h⟩
  all_goals (exfalso; exact absurd h (by show ¬ (false = true); decide))

/-- Operations in order. -/
noncomputable def seqK (ck : CallK) (yk : YieldK) (os : List AOper) (T : PT AV) (H : AHeap) (nx : Pos) (k : PT AV → AHeap → Pos → Bool) : Bool :=
  @List.rec AOper (fun _ => CallK → YieldK → PT AV → AHeap → Pos → (PT AV → AHeap → Pos → Bool) → Bool)
    (fun _ _ T H nx k => k T H nx)
    (fun o _ ih ck yk T H nx k => @AOper.rec (fun _ => (CallK → YieldK → PT AV → AHeap → Pos → (PT AV → AHeap → Pos → Bool) → Bool) → CallK → YieldK → PT AV → AHeap → Pos → (PT AV → AHeap → Pos → Bool) → Bool)
      (fun d g op ih ck yk T H nx k => wantK T g (fun _ => putTK d undefA T fun T => ih ck yk T H nx k) (fun _ => opK ck yk T H nx op fun v H nx => putTK d v T fun T => ih ck yk T H nx k)) o ih ck yk T H nx k) os ck yk T H nx k

theorem seqK_some {ck : CallK} {yk : YieldK} {cf : CallR} {yf : YieldR} (h1 : CallOK ck cf) (h2 : YieldOK yk yf) : ∀ {os : List AOper} {T : PT AV} {H : AHeap} {nx : Pos} {k : PT AV → AHeap → Pos → Bool},
    seqK ck yk os T H nx k = true → ∃ T' H' nx', seqA cf yf os T H nx = some (T', H', nx') ∧ k T' H' nx' = true
  | [], T, H, nx, k, h => ⟨T, H, nx, rfl, h⟩
  | ⟨d, g, op⟩ :: os, T, H, nx, k, h => by
    have h' : wantK T g (fun _ => putTK d undefA T fun T => seqK ck yk os T H nx k) (fun _ => opK ck yk T H nx op fun v H nx => putTK d v T fun T => seqK ck yk os T H nx k) = true := h
    rcases wantK_some h' with ⟨e1, h3⟩ | ⟨e1, h3⟩
    · obtain ⟨v, H', nx', e2, h4⟩ := opK_some h1 h2 h3
      rw [putTK_eq] at h4
      obtain ⟨T3, H3, n3, e3, h5⟩ := seqK_some h1 h2 h4
      exact ⟨T3, H3, n3, by simp only [seqA, e1, e2, e3], h5⟩
    · rw [putTK_eq] at h3
      obtain ⟨T3, H3, n3, e3, h5⟩ := seqK_some h1 h2 h3
      exact ⟨T3, H3, n3, by simp only [seqA, e1, e3], h5⟩


noncomputable def lookK (T : PT AV) (op : AOp) (v : AV) (q : Nat) (Ss : List AHeap) (k : Unit → Bool) : Bool :=
  @Nat.rec (fun _ => PT AV → AOp → AV → Nat → List AHeap → (Unit → Bool) → Bool) (fun _ _ _ _ _ k => k ()) (fun _ _ T op v q Ss k => iteK (lookBack (evR T) op v q Ss) k fun _ => false) q T op v q Ss k
theorem lookK_some {T : PT AV} {op : AOp} {v : AV} {q : Nat} {Ss : List AHeap} {k : Unit → Bool} (h : lookK T op v q Ss k = true) : lookBack (evR T) op v q Ss = true ∧ k () = true := by
  cases q with
  | zero => exact ⟨by unfold lookBack; rfl, h⟩
  | succ q =>
    rcases iteK_some h with ⟨h1, h2⟩ | ⟨_, h2⟩
    · exact ⟨h1, h2⟩
    · cases h2

noncomputable def sort3 (s : Nat) (a b c : Unit → Bool) : Bool :=
  @Nat.rec (fun _ => (Unit → Bool) → (Unit → Bool) → (Unit → Bool) → Bool) (fun a _ _ => a ()) (fun s _ a b c => @Nat.rec (fun _ => (Unit → Bool) → (Unit → Bool) → (Unit → Bool) → Bool) (fun _ b _ => b ()) (fun s _ a _ c => @Nat.rec (fun _ => (Unit → Bool) → (Unit → Bool) → Bool) (fun a _ => a ()) (fun s _ a c => @Nat.rec (fun _ => (Unit → Bool) → (Unit → Bool) → Bool) (fun _ c => c ()) (fun _ _ a _ => a ()) s a c) s a c) s a b c) s a b c

/-- Operations whose order is open. -/
noncomputable def drwK (ck : CallK) (yk : YieldK) (os : List (Nat × Nat × AOper)) (Ss : List AHeap) (T : PT AV) (H : AHeap) (nx : Pos) (k : PT AV → AHeap → Pos → Bool) : Bool :=
  @List.rec (Nat × Nat × AOper) (fun _ => CallK → YieldK → List AHeap → PT AV → AHeap → Pos → (PT AV → AHeap → Pos → Bool) → Bool)
    (fun _ _ _ T H nx k => k T H nx)
    (fun o _ ih ck yk Ss T H nx k => @Prod.rec Nat (Nat × AOper) (fun _ => (CallK → YieldK → List AHeap → PT AV → AHeap → Pos → (PT AV → AHeap → Pos → Bool) → Bool) → CallK → YieldK → List AHeap → PT AV → AHeap → Pos → (PT AV → AHeap → Pos → Bool) → Bool)
      (fun s o ih ck yk Ss T H nx k => @Prod.rec Nat AOper (fun _ => Nat → (CallK → YieldK → List AHeap → PT AV → AHeap → Pos → (PT AV → AHeap → Pos → Bool) → Bool) → CallK → YieldK → List AHeap → PT AV → AHeap → Pos → (PT AV → AHeap → Pos → Bool) → Bool)
        (fun q o s ih ck yk Ss T H nx k => @AOper.rec (fun _ => Nat → Nat → (CallK → YieldK → List AHeap → PT AV → AHeap → Pos → (PT AV → AHeap → Pos → Bool) → Bool) → CallK → YieldK → List AHeap → PT AV → AHeap → Pos → (PT AV → AHeap → Pos → Bool) → Bool)
          (fun d g op q s ih ck yk Ss T H nx k =>
            wantK T g (fun _ => putTK d undefA T fun T => sort3 s (fun _ => ih ck yk Ss T H nx k) (fun _ => ih ck yk Ss T H nx k) (fun _ => ih ck yk (H :: Ss) T H nx k))
              (fun _ => opK ck yk T H nx op fun v H' nx' => sort3 s
                (fun _ => putTK d v T fun T => ih ck yk Ss T H' nx' k)
                (fun _ => lookK T op v q Ss fun _ => putTK d v T fun T => ih ck yk Ss T H' nx' k)
                (fun _ => putTK d v T fun T => ih ck yk (H :: Ss) T H' nx' k))) o q s ih ck yk Ss T H nx k) o s ih ck yk Ss T H nx k) o ih ck yk Ss T H nx k) os ck yk Ss T H nx k

theorem sort3_some {s : Nat} {a b c : Unit → Bool} (h : sort3 s a b c = true) : (s = 1 ∧ b () = true) ∨ (s = 3 ∧ c () = true) ∨ (s ≠ 1 ∧ s ≠ 3 ∧ a () = true) := by
  match s, h with
  | 0, h => exact .inr (.inr ⟨by omega, by omega, h⟩)
  | 1, h => exact .inl ⟨rfl, h⟩
  | 2, h => exact .inr (.inr ⟨by omega, by omega, h⟩)
  | 3, h => exact .inr (.inl ⟨rfl, h⟩)
  | s + 4, h => exact .inr (.inr ⟨by omega, by omega, h⟩)

theorem drwK_some {ck : CallK} {yk : YieldK} {cf : CallR} {yf : YieldR} (h1 : CallOK ck cf) (h2 : YieldOK yk yf) : ∀ {os : List (Nat × Nat × AOper)} {Ss : List AHeap} {T : PT AV} {H : AHeap} {nx : Pos} {k : PT AV → AHeap → Pos → Bool},
    drwK ck yk os Ss T H nx k = true → ∃ T' H' nx', drwA cf yf os Ss T H nx = some (T', H', nx') ∧ k T' H' nx' = true
  | [], Ss, T, H, nx, k, h => ⟨T, H, nx, rfl, h⟩
  | (s, q, ⟨d, g, op⟩) :: os, Ss, T, H, nx, k, h => by
    have h' : wantK T g (fun _ => putTK d undefA T fun T => sort3 s (fun _ => drwK ck yk os Ss T H nx k) (fun _ => drwK ck yk os Ss T H nx k) (fun _ => drwK ck yk os (H :: Ss) T H nx k))
        (fun _ => opK ck yk T H nx op fun v H' nx' => sort3 s
          (fun _ => putTK d v T fun T => drwK ck yk os Ss T H' nx' k)
          (fun _ => lookK T op v q Ss fun _ => putTK d v T fun T => drwK ck yk os Ss T H' nx' k)
          (fun _ => putTK d v T fun T => drwK ck yk os (H :: Ss) T H' nx' k)) = true := h
    rcases wantK_some h' with ⟨e1, h3⟩ | ⟨e1, h3⟩
    · obtain ⟨v, H', nx', e2, h4⟩ := opK_some h1 h2 h3
      rcases sort3_some h4 with ⟨rfl, h5⟩ | ⟨rfl, h5⟩ | ⟨n1, n3, h5⟩
      · obtain ⟨hl, h5⟩ := lookK_some h5
        rw [putTK_eq] at h5
        obtain ⟨T3, H3, n3, e3, h6⟩ := drwK_some h1 h2 h5
        rw [evR_eq] at hl
        exact ⟨T3, H3, n3, by simp only [drwA, e1, e2, hl, e3], h6⟩
      · rw [putTK_eq] at h5
        obtain ⟨T3, H3, n3, e3, h6⟩ := drwK_some h1 h2 h5
        exact ⟨T3, H3, n3, by simp only [drwA, e1, e2, e3], h6⟩
      · rw [putTK_eq] at h5
        obtain ⟨T3, H3, m3, e3, h6⟩ := drwK_some h1 h2 h5
        refine ⟨T3, H3, m3, ?_, h6⟩
        simp only [drwA, e1, e2]
        exact e3
    · rw [putTK_eq] at h3
      rcases sort3_some h3 with ⟨rfl, h5⟩ | ⟨rfl, h5⟩ | ⟨n1, n3, h5⟩
      · obtain ⟨T3, H3, n3, e3, h6⟩ := drwK_some h1 h2 h5
        exact ⟨T3, H3, n3, by simp only [drwA, e1, e3], h6⟩
      · obtain ⟨T3, H3, n3, e3, h6⟩ := drwK_some h1 h2 h5
        exact ⟨T3, H3, n3, by simp only [drwA, e1, e3], h6⟩
      · obtain ⟨T3, H3, m3, e3, h6⟩ := drwK_some h1 h2 h5
        refine ⟨T3, H3, m3, ?_, h6⟩
        simp only [drwA, e1]
        exact e3


/-! The end of a call. -/
noncomputable def unmarkK (D : List Pos) (H : AHeap) (k : AHeap → Bool) : Bool :=
  @List.rec Pos (fun _ => AHeap → (AHeap → Bool) → Bool) (fun H k => k H) (fun id _ ih H k => getB id H fun r => dfrK r fun _ => putB id none H fun H' => ih H' k) D H k
theorem unmarkK_some : ∀ {D : List Pos} {H : AHeap} {k : AHeap → Bool}, unmarkK D H k = true → ∃ H', unmark D H = some H' ∧ k H' = true
  | [], H, k, h => ⟨H, rfl, h⟩
  | id :: D, H, k, h => by
    have h : getB id H (fun r => dfrK r fun _ => putB id none H fun H' => unmarkK D H' k) = true := h
    rw [getB_eq] at h
    obtain ⟨e1, h⟩ := dfrK_some h
    rw [putB_eq] at h
    obtain ⟨H', e2, h⟩ := unmarkK_some h
    exact ⟨H', by simp only [unmark, e1, e2], h⟩
noncomputable def resK (rs : List ARes) (T : PT AV) (H : AHeap) (k : List AV → Bool) : Bool :=
  @List.rec ARes (fun _ => PT AV → AHeap → (List AV → Bool) → Bool) (fun _ _ k => k []) (fun r _ ih T H k => @ARes.rec (fun _ => (PT AV → AHeap → (List AV → Bool) → Bool) → PT AV → AHeap → (List AV → Bool) → Bool)
    (fun p ih T H k => evK T (.t p) fun v => ih T H fun l => k (v :: l)) (fun p ag n ih T H k => loadK T H ag n (.t p) fun v => ih T H fun l => k (v :: l)) r ih T H k) rs T H k
theorem resK_some {T : PT AV} {H : AHeap} : ∀ {rs : List ARes} {k : List AV → Bool}, resK rs T H k = true → ∃ l, resOf T H rs = some l ∧ k l = true
  | [], k, h => ⟨[], rfl, h⟩
  | .tmp p :: rs, k, h => by
    have h : evK T (.t p) (fun v => resK rs T H fun l => k (v :: l)) = true := h
    rw [evK_eq] at h
    obtain ⟨l, e, h⟩ := resK_some h
    exact ⟨_, by simp only [resOf, e], h⟩
  | .cell p ag n :: rs, k, h => by
    have h : loadK T H ag n (.t p) (fun v => resK rs T H fun l => k (v :: l)) = true := h
    obtain ⟨v, e1, h⟩ := loadK_some h
    obtain ⟨l, e, h⟩ := resK_some h
    exact ⟨_, by simp only [resOf, e, e1], h⟩
noncomputable def tupOfK (l : List AV) (k : AV → Bool) : Bool :=
  @List.rec AV (fun _ => (AV → Bool) → Bool) (fun k => k (.tup [])) (fun a l _ k => @List.rec AV (fun _ => AV → (AV → Bool) → Bool) (fun a k => k a) (fun b m _ a k => k (.tup (a :: b :: m))) l a k) l k
theorem tupOfK_eq (l : List AV) (k : AV → Bool) : tupOfK l k = k (tupOf l) := by
  cases l with
  | nil => rfl
  | cons a l =>
    cases l with
    | nil => rfl
    | cons b m => rfl
noncomputable def endFnK (rs : List ARes) (T : PT AV) (D : List Pos) (H : AHeap) (nx : Pos) (k : AV → AHeap → Pos → Bool) : Bool := unmarkK D H fun H' => resK rs T H' fun l => tupOfK l fun v => k v H' nx
theorem endFnK_some {rs : List ARes} {body : AC} {T : PT AV} {D : List Pos} {H : AHeap} {nx : Pos} {k : AV → AHeap → Pos → Bool} (h : endFnK rs T D H nx k = true) : ∃ v H' nx', endFn ⟨rs, body⟩ ⟨T, D, H, nx⟩ = some (v, H', nx') ∧ k v H' nx' = true := by
  obtain ⟨H', e1, h⟩ := unmarkK_some h
  obtain ⟨l, e2, h⟩ := resK_some h
  rw [tupOfK_eq] at h
  exact ⟨_, _, _, by simp only [endFn, e1, e2], h⟩

section
variable (fns : Nat → Option AFn) (sum : Nat → List AV → AHeap → Option AV)
abbrev KX := AEx → PT AV → List Pos → AHeap → Pos → Bool
abbrev ExecK := AC → Option Pos → PT AV → List Pos → AHeap → Pos → (AEx → PT AV → List Pos → AHeap → Pos → Bool) → Bool
def ExecOK (ek : ExecK) (ex : ExecR) : Prop := ∀ c rd T D H nx k, ek c rd T D H nx k = true → ∃ x s, ex c rd ⟨T, D, H, nx⟩ = some (x, s) ∧ k x s.T s.D s.H s.nx = true

noncomputable def bindK (vs : List AV) (p : Pos) (T : PT AV) (k : PT AV → Bool) : Bool :=
  @List.rec AV (fun _ => Pos → PT AV → (PT AV → Bool) → Bool) (fun _ T k => k T) (fun v _ ih p T k => putV p (some v) T fun T => succK p fun p => ih p T k) vs p T k
theorem bindK_eq : ∀ (vs : List AV) (n : Nat) (T : PT AV) (k : PT AV → Bool), bindK vs (Pos.ofNat n) T k = k (bindT vs n T)
  | [], _, _, _ => rfl
  | v :: vs, n, T, k => by
    have : bindK (v :: vs) (Pos.ofNat n) T k = putV (Pos.ofNat n) (some v) T fun T => succK (Pos.ofNat n) fun p => bindK vs p T k := rfl
    rw [this, putV_eq, succK_eq, show (Pos.ofNat n).succ = Pos.ofNat (n + 1) from Pos.toNat_inj (by rw [Pos.toNat_succ, Pos.toNat_ofNat, Pos.toNat_ofNat]), bindK_eq vs]; rfl

noncomputable def exK (x : AEx) (a : Unit → Bool) (b : Nat → Bool) (c : Unit → Bool) : Bool := @AEx.rec (fun _ => (Unit → Bool) → (Nat → Bool) → (Unit → Bool) → Bool) (fun a _ _ => a ()) (fun i _ b _ => b i) (fun _ _ c => c ()) x a b c

noncomputable def callX (ek : ExecK) : CallK := fun f args H nx k =>
  @Option.rec AV (fun _ => ExecK → List AV → AHeap → Pos → (AV → AHeap → Pos → Bool) → Bool)
    (fun ek args H nx k => optK (fns f) fun fn => @AFn.rec (fun _ => ExecK → List AV → AHeap → Pos → (AV → AHeap → Pos → Bool) → Bool) (fun rs body ek args H nx k => bindK args .h .lf fun T => ek body none T [] H nx fun x T D H nx =>
      exK x (fun _ => endFnK rs T D H nx k) (fun _ => false) (fun _ => endFnK rs T D H nx k)) fn ek args H nx k)
    (fun v _ _ H nx k => k v H nx) (sum f args H) ek args H nx k

theorem callX_ok {ek : ExecK} {ex : ExecR} (h : ExecOK ek ex) : CallOK (callX fns sum ek) (callA fns sum ex) := by
  intro f args H nx k hk
  unfold callX at hk
  cases hs : sum f args H with
  | some v => rw [hs] at hk; exact ⟨v, H, nx, by simp only [callA, hs], hk⟩
  | none =>
    rw [hs] at hk
    obtain ⟨fn, e1, hk⟩ := optK_some hk
    obtain ⟨rs, body⟩ := fn
    have hk : (bindK args (Pos.ofNat 0) .lf fun T => ek body none T [] H nx fun x T D H nx =>
      exK x (fun _ => endFnK rs T D H nx k) (fun _ => false) (fun _ => endFnK rs T D H nx k)) = true := hk
    rw [bindK_eq] at hk
    obtain ⟨x, s, e2, hk⟩ := h _ _ _ _ _ _ _ hk
    cases x with
    | normal =>
      obtain ⟨v, H', nx', e3, hk⟩ := endFnK_some (body := body) hk
      exact ⟨v, H', nx', by simp only [callA, hs, e1, e2]; exact e3, hk⟩
    | exit i => cases hk
    | ret =>
      obtain ⟨v, H', nx', e3, hk⟩ := endFnK_some (body := body) hk
      exact ⟨v, H', nx', by simp only [callA, hs, e1, e2]; exact e3, hk⟩

/-- A round of a range over a function: as in the plain form, its two runs in continuations. -/
noncomputable def yieldX (ek : ExecK) : YieldK := fun id args H nx k =>
  match getR id H with
  | some (.loop true none T ps asg body) => optK (setPs ps args T) fun T' => ek asg (some id) T' [] H nx fun x T1 D1 H1 nx1 => match x with
    | .normal => match getR id H1 with
      | some (.loop true none T2 ps2 asg2 body2) => putB id (some (.loop false none T2 ps2 asg2 body2)) H1 fun H2 => ek body (some id) T1 D1 H2 nx1 fun x _ D3 H3 nx3 =>
        match D3, getR id H3 with
        | [], some (.loop false none T3 ps3 asg3 body3) => match x with
          | .normal => putB id (some (.loop true none T3 ps3 asg3 body3)) H3 fun H4 => k (.bool true) H4 nx3
          | .ret => putB id (some (.loop false (some none) T3 ps3 asg3 body3)) H3 fun H4 => k (.bool false) H4 nx3
          | .exit i => putB id (some (.loop false (some (some i)) T3 ps3 asg3 body3)) H3 fun H4 => k (.bool false) H4 nx3
        | _, _ => false
      | _ => false
    | _ => false
  | _ => false

theorem yieldX_ok {ek : ExecK} {ex : ExecR} (h : ExecOK ek ex) : YieldOK (yieldX ek) (yieldA ex) := by
  intro id args H nx k hk
  simp only [yieldX, getR_eq, putB_eq] at hk
  split at hk
  · rename_i T ps asg body e1
    obtain ⟨T', e2, hk⟩ := optK_some hk
    obtain ⟨x, s1, e3, hk⟩ := h _ _ _ _ _ _ _ hk
    split at hk
    · split at hk
      · rename_i T2 ps2 asg2 body2 e4
        obtain ⟨x2, s2, e5, hk⟩ := h _ _ _ _ _ _ _ hk
        split at hk
        · rename_i T3 ps3 asg3 body3 e6 e7
          split at hk
          · exact ⟨_, _, _, by simp only [yieldA, e1, e2, e3, e4, e5, e6, e7], hk⟩
          · exact ⟨_, _, _, by simp only [yieldA, e1, e2, e3, e4, e5, e6, e7], hk⟩
          · exact ⟨_, _, _, by simp only [yieldA, e1, e2, e3, e4, e5, e6, e7], hk⟩
        · cases hk
      · cases hk
    · cases hk
  · cases hk


/-- A range over a function. -/
noncomputable def rngX (ek : ExecK) (f : AX) (ps : List Pos) (asg body : AC) (rd : Option Pos) (T : PT AV) (D : List Pos) (H : AHeap) (nx : Pos) (k : AEx → PT AV → List Pos → AHeap → Pos → Bool) : Bool :=
  match rd with
  | some _ => false
  | none => evK T f fun fv => fnK fv (fun g fs cs => putB nx (some .dfr) H fun H1 => succK nx fun n1 => putB n1 (some (.loop true none T ps asg body)) H1 fun H2 => succK n1 fun n2 => callX fns sum ek g (fs ++ (.yld n1 :: cs)) H2 n2 fun _ H' nx' =>
      match getR n1 H' with
      | some (.loop true none _ _ _ _) => putB n1 none H' fun H3 => k .normal T (nx :: D) H3 nx'
      | some (.loop false (some none) _ _ _ _) => putB n1 none H' fun H3 => k .ret T (nx :: D) H3 nx'
      | some (.loop false (some (some i)) _ _ _ _) => putB n1 none H' fun H3 => k (.exit i) T (nx :: D) H3 nx'
      | _ => false) (fun _ => false)


abbrev RngK := AX → List Pos → AC → AC → Option Pos → PT AV → List Pos → AHeap → Pos → KX → Bool
abbrev CodeK := CallK → YieldK → RngK → ExecK → Option Pos → PT AV → List Pos → AHeap → Pos → KX → Bool
noncomputable def xSkip : CodeK := fun _ _ _ _ _ T D H nx k => k .normal T D H nx
noncomputable def xReg (ops : List AOper) : CodeK := fun ck yk _ _ _ T D H nx k => seqK ck yk ops T H nx fun T H nx => k .normal T D H nx
noncomputable def xDrw (ops : List (Nat × Nat × AOper)) : CodeK := fun ck yk _ _ _ T D H nx k => drwK ck yk ops [] T H nx fun T H nx => k .normal T D H nx
noncomputable def xSeq (a b : AC) (_ _ : CodeK) : CodeK := fun _ _ _ ek rd T D H nx k => ek a rd T D H nx fun x T D H nx => exK x (fun _ => ek b rd T D H nx k) (fun i => k (.exit i) T D H nx) (fun _ => k .ret T D H nx)
noncomputable def xCond (x : AX) (a b : AC) (_ _ : CodeK) : CodeK := fun _ _ _ ek rd T D H nx k => evK T x fun v => boolK v (fun _ => ek a rd T D H nx k) (fun _ => ek b rd T D H nx k)
noncomputable def xBlock (id : Nat) (a : AC) (_ : CodeK) : CodeK := fun _ _ _ ek rd T D H nx k => ek a rd T D H nx fun x T D H nx => exK x (fun _ => k .normal T D H nx) (fun i => iteK (Nat.beq i id) (fun _ => k .normal T D H nx) (fun _ => k (.exit i) T D H nx)) (fun _ => k .ret T D H nx)
noncomputable def xLoop (a : AC) (_ : CodeK) : CodeK := fun _ _ _ ek rd T D H nx k => ek a rd T D H nx fun x T D H nx => exK x (fun _ => ek (.loop a) rd T D H nx k) (fun i => k (.exit i) T D H nx) (fun _ => k .ret T D H nx)
noncomputable def xRng (f : AX) (ps : List Pos) (asg body : AC) (_ _ : CodeK) : CodeK := fun _ _ rk _ rd T D H nx k => rk f ps asg body rd T D H nx k
noncomputable def xExit (id : Nat) : CodeK := fun _ _ _ _ _ T D H nx k => k (.exit id) T D H nx
noncomputable def xRet : CodeK := fun _ _ _ _ _ T D H nx k => k .ret T D H nx
noncomputable def xBad : CodeK := fun _ _ _ _ _ _ _ _ _ _ => false
noncomputable def execX (ek : ExecK) : ExecK := fun c rd T D H nx k =>
  @AC.rec (fun _ => CodeK) xSkip xReg xDrw xSeq xCond xBlock xLoop xRng xExit xRet xBad c (callX fns sum ek) (yieldX ek) (rngX fns sum ek) ek rd T D H nx k

theorem execX_ok {ek : ExecK} {ex : ExecR} (h : ExecOK ek ex) : ExecOK (execX fns sum ek) (execF fns sum ex) := by
  intro c rd T D H nx k hk
  cases c with
  | skip => exact ⟨.normal, _, rfl, hk⟩
  | reg ops =>
    have hk : seqK (callX fns sum ek) (yieldX ek) ops T H nx (fun T H nx => k .normal T D H nx) = true := hk
    obtain ⟨T', H', nx', e, hk⟩ := seqK_some (callX_ok fns sum h) (yieldX_ok h) hk
    exact ⟨.normal, ⟨T', D, H', nx'⟩, by simp only [execF, e], hk⟩
  | drw ops =>
    have hk : drwK (callX fns sum ek) (yieldX ek) ops [] T H nx (fun T H nx => k .normal T D H nx) = true := hk
    obtain ⟨T', H', nx', e, hk⟩ := drwK_some (callX_ok fns sum h) (yieldX_ok h) hk
    exact ⟨.normal, ⟨T', D, H', nx'⟩, by simp only [execF, e], hk⟩
  | seq a b =>
    have hk : ek a rd T D H nx (fun x T D H nx => exK x (fun _ => ek b rd T D H nx k) (fun i => k (.exit i) T D H nx) (fun _ => k .ret T D H nx)) = true := hk
    obtain ⟨x, s, e, hk⟩ := h _ _ _ _ _ _ _ hk
    cases x with
    | normal =>
      obtain ⟨x2, s2, e2, hk⟩ := h _ _ _ _ _ _ _ hk
      exact ⟨x2, s2, by simp only [execF, e]; exact e2, hk⟩
    | exit i => exact ⟨_, s, by simp only [execF, e], hk⟩
    | ret => exact ⟨_, s, by simp only [execF, e], hk⟩
  | cond x a b =>
    have hk : evK T x (fun v => boolK v (fun _ => ek a rd T D H nx k) (fun _ => ek b rd T D H nx k)) = true := hk
    rw [evK_eq] at hk
    rcases boolK_some hk with ⟨e, hk⟩ | ⟨e, hk⟩
    · obtain ⟨x2, s2, e2, hk⟩ := h _ _ _ _ _ _ _ hk
      exact ⟨x2, s2, by simp only [execF, e]; exact e2, hk⟩
    · obtain ⟨x2, s2, e2, hk⟩ := h _ _ _ _ _ _ _ hk
      exact ⟨x2, s2, by simp only [execF, e]; exact e2, hk⟩
  | block id a =>
    have hk : ek a rd T D H nx (fun x T D H nx => exK x (fun _ => k .normal T D H nx) (fun i => iteK (Nat.beq i id) (fun _ => k .normal T D H nx) (fun _ => k (.exit i) T D H nx)) (fun _ => k .ret T D H nx)) = true := hk
    obtain ⟨x, s, e, hk⟩ := h _ _ _ _ _ _ _ hk
    cases x with
    | normal => exact ⟨_, s, by simp only [execF, e], hk⟩
    | exit i =>
      rcases iteK_some hk with ⟨hb, hk⟩ | ⟨hb, hk⟩
      · exact ⟨.normal, s, by simp only [execF, e, hb, if_true], hk⟩
      · exact ⟨.exit i, s, by simp only [execF, e, hb]; rfl, hk⟩
    | ret => exact ⟨_, s, by simp only [execF, e], hk⟩
  | loop a =>
    have hk : ek a rd T D H nx (fun x T D H nx => exK x (fun _ => ek (.loop a) rd T D H nx k) (fun i => k (.exit i) T D H nx) (fun _ => k .ret T D H nx)) = true := hk
    obtain ⟨x, s, e, hk⟩ := h _ _ _ _ _ _ _ hk
    cases x with
    | normal =>
      obtain ⟨x2, s2, e2, hk⟩ := h _ _ _ _ _ _ _ hk
      exact ⟨x2, s2, by simp only [execF, e]; exact e2, hk⟩
    | exit i => exact ⟨_, s, by simp only [execF, e], hk⟩
    | ret => exact ⟨_, s, by simp only [execF, e], hk⟩
  | rng f ps asg body =>
    have hk : rngX fns sum ek f ps asg body rd T D H nx k = true := hk
    simp only [rngX, getR_eq, putB_eq, succK_eq] at hk
    split at hk
    · cases hk
    · rw [evK_eq] at hk
      rcases fnK_some hk with ⟨g, fs, cs, e1, hk⟩ | ⟨_, _, hk⟩
      · obtain ⟨v, H', nx', e2, hk⟩ := callX_ok fns sum h _ _ _ _ _ hk
        split at hk
        · rename_i e3
          exact ⟨.normal, ⟨T, nx :: D, PT.put nx.succ none H', nx'⟩, by simp only [execF, e1, e2, e3], hk⟩
        · rename_i e3
          exact ⟨.ret, ⟨T, nx :: D, PT.put nx.succ none H', nx'⟩, by simp only [execF, e1, e2, e3], hk⟩
        · rename_i i _ _ _ _ e3
          exact ⟨.exit i, ⟨T, nx :: D, PT.put nx.succ none H', nx'⟩, by simp only [execF, e1, e2, e3], hk⟩
        · cases hk
      · cases hk
  | exit id => exact ⟨_, _, rfl, hk⟩
  | ret => exact ⟨_, _, rfl, hk⟩
  | bad => cases hk


noncomputable def execN (n : Nat) : ExecK := @Nat.rec (fun _ => ExecK) (fun _ _ _ _ _ _ _ => false) (fun _ ih => execX fns sum ih) n

theorem execN_ok : ∀ n, ExecOK (execN fns sum n) (exec fns sum n)
  | 0 => fun _ _ _ _ _ _ _ h => by cases h
  | n + 1 => execX_ok fns sum (execN_ok n)

noncomputable def topK (n : Nat) : CallK := callX fns sum (execN fns sum n)

theorem topK_some {n f : Nat} {args : List AV} {H : AHeap} {nx : Pos} {k : AV → AHeap → Pos → Bool} (h : topK fns sum n f args H nx k = true) :
    ∃ v H' nx', top fns sum n f args H nx = some (v, H', nx') ∧ k v H' nx' = true := callX_ok fns sum (execN_ok fns sum n) _ _ _ _ _ h
end
end
end Go.Abs


namespace Go.Abs

def LeC (cf cf' : CallR) : Prop := ∀ f args H nx r, cf f args H nx = some r → cf' f args H nx = some r
def LeY (yf yf' : YieldR) : Prop := ∀ id args H nx r, yf id args H nx = some r → yf' id args H nx = some r
def LeR (ex ex' : ExecR) : Prop := ∀ c rd s r, ex c rd s = some r → ex' c rd s = some r

theorem opA_le {cf cf' : CallR} {yf yf' : YieldR} (h1 : LeC cf cf') (h2 : LeY yf yf') {e : AX → AV} {H : AHeap} {nx : Pos} {op : AOp} {r : AV × AHeap × Pos} (h : opA cf yf e H nx op = some r) : opA cf' yf' e H nx op = some r := by
  cases op <;> try exact h
  simp only [opA] at h ⊢
  split at h
  · exact h1 _ _ _ _ _ h
  · exact h2 _ _ _ _ _ h
  · cases h

theorem seqA_le {cf cf' : CallR} {yf yf' : YieldR} (h1 : LeC cf cf') (h2 : LeY yf yf') : ∀ {os : List AOper} {T : PT AV} {H : AHeap} {nx : Pos} {r : PT AV × AHeap × Pos}, seqA cf yf os T H nx = some r → seqA cf' yf' os T H nx = some r
  | [], _, _, _, _, h => h
  | o :: os, T, H, nx, r, h => by
    simp only [seqA] at h ⊢
    split at h
    · rename_i hw
      split at h
      · rename_i v H1 n1 e
        simp only [opA_le h1 h2 e]
        exact seqA_le h1 h2 h
      · cases h
    · exact seqA_le h1 h2 h
    · cases h

theorem drwA_le {cf cf' : CallR} {yf yf' : YieldR} (h1 : LeC cf cf') (h2 : LeY yf yf') : ∀ {os : List (Nat × Nat × AOper)} {Ss : List AHeap} {T : PT AV} {H : AHeap} {nx : Pos} {r : PT AV × AHeap × Pos}, drwA cf yf os Ss T H nx = some r → drwA cf' yf' os Ss T H nx = some r
  | [], _, _, _, _, _, h => h
  | (s, k, o) :: os, Ss, T, H, nx, r, h => by
    simp only [drwA] at h ⊢
    split at h
    · split at h
      · rename_i v H1 n1 e
        simp only [opA_le h1 h2 e]
        split at h
        · split at h
          · exact drwA_le h1 h2 h
          · cases h
        · exact drwA_le h1 h2 h
        · exact drwA_le h1 h2 h
      · cases h
    · split at h
      · exact drwA_le h1 h2 h
      · exact drwA_le h1 h2 h
    · cases h

section
variable (fns : Nat → Option AFn) (sum : Nat → List AV → AHeap → Option AV)
theorem callA_le {ex ex' : ExecR} (h : LeR ex ex') : LeC (callA fns sum ex) (callA fns sum ex') := by
  intro f args H nx r hc
  simp only [callA] at hc ⊢
  split at hc
  · exact hc
  · split at hc
    · split at hc
      · rename_i s e
        simp only [h _ _ _ _ e]
        exact hc
      · rename_i s e
        simp only [h _ _ _ _ e]
        exact hc
      · cases hc
    · cases hc

theorem yieldA_le {ex ex' : ExecR} (h : LeR ex ex') : LeY (yieldA ex) (yieldA ex') := by
  intro id args H nx r hc
  simp only [yieldA] at hc ⊢
  split at hc
  · split at hc
    · split at hc
      · rename_i s1 e1
        simp only [h _ _ _ _ e1]
        split at hc
        · split at hc
          · rename_i x s2 e2
            simp only [h _ _ _ _ e2]
            exact hc
          · cases hc
        · cases hc
      · cases hc
    · cases hc
  · cases hc

theorem execF_le {ex ex' : ExecR} (h : LeR ex ex') : LeR (execF fns sum ex) (execF fns sum ex') := by
  intro c rd s r hc
  cases c with
  | skip => exact hc
  | reg ops =>
    simp only [execF] at hc ⊢
    split at hc
    · rename_i T H nx e
      simp only [seqA_le (callA_le fns sum h) (yieldA_le h) e]
      exact hc
    · cases hc
  | drw ops =>
    simp only [execF] at hc ⊢
    split at hc
    · rename_i T H nx e
      simp only [drwA_le (callA_le fns sum h) (yieldA_le h) e]
      exact hc
    · cases hc
  | seq a b =>
    simp only [execF] at hc ⊢
    cases hx : ex a rd s with
    | none => rw [hx] at hc; cases hc
    | some q =>
      rw [hx] at hc
      rw [h _ _ _ _ hx]
      obtain ⟨x, s'⟩ := q
      cases x with
      | normal => exact h _ _ _ _ hc
      | exit i => exact hc
      | ret => exact hc
  | cond x a b =>
    simp only [execF] at hc ⊢
    split at hc
    · exact h _ _ _ _ hc
    · exact h _ _ _ _ hc
    · cases hc
  | block id a =>
    simp only [execF] at hc ⊢
    cases hx : ex a rd s with
    | none => rw [hx] at hc; cases hc
    | some q =>
      rw [hx] at hc
      rw [h _ _ _ _ hx]
      exact hc
  | loop a =>
    simp only [execF] at hc ⊢
    cases hx : ex a rd s with
    | none => rw [hx] at hc; cases hc
    | some q =>
      rw [hx] at hc
      rw [h _ _ _ _ hx]
      obtain ⟨x, s'⟩ := q
      cases x with
      | normal => exact h _ _ _ _ hc
      | exit i => exact hc
      | ret => exact hc
  | rng f ps asg body =>
    simp only [execF] at hc ⊢
    split at hc
    · cases hc
    · split at hc
      · split at hc
        · rename_i e
          simp only [callA_le fns sum h _ _ _ _ _ e]
          exact hc
        · cases hc
      · cases hc
  | exit id => exact hc
  | ret => exact hc
  | bad => exact hc

theorem exec_le : ∀ (n : Nat), LeR (exec fns sum n) (exec fns sum (n + 1))
  | 0 => fun _ _ _ _ h => by cases h
  | n + 1 => execF_le fns sum (exec_le n)

theorem exec_le_add (n : Nat) : ∀ k, LeR (exec fns sum n) (exec fns sum (n + k))
  | 0 => fun _ _ _ _ h => h
  | k + 1 => fun c rd s r h => exec_le fns sum (n + k) c rd s r (exec_le_add n k c rd s r h)

theorem exec_le_of {n m : Nat} (h : n ≤ m) : LeR (exec fns sum n) (exec fns sum m) := by
  obtain ⟨k, rfl⟩ := Nat.le.dest h
  exact exec_le_add fns sum n k
end
end Go.Abs

namespace Go.Abs
section
variable (fns : Nat → Option AFn) (sum : Nat → List AV → AHeap → Option AV)

def CallE (ck : CallK) : Prop := ∀ f args H nx k, ck f args H nx k = true → ∃ n v H' nx', callA fns sum (exec fns sum n) f args H nx = some (v, H', nx') ∧ k v H' nx' = true
def YieldE (yk : YieldK) : Prop := ∀ id args H nx k, yk id args H nx k = true → ∃ n v H' nx', yieldA (exec fns sum n) id args H nx = some (v, H', nx') ∧ k v H' nx' = true
def ExecE (ek : ExecK) : Prop := ∀ c rd T D H nx k, ek c rd T D H nx k = true → ∃ n x s, exec fns sum n c rd ⟨T, D, H, nx⟩ = some (x, s) ∧ k x s.T s.D s.H s.nx = true

noncomputable def noC : CallK := fun _ _ _ _ _ => false
noncomputable def noY : YieldK := fun _ _ _ _ _ => false
theorem noC_ok (cf : CallR) : CallOK noC cf := fun _ _ _ _ _ h => by cases h
theorem noY_ok (yf : YieldR) : YieldOK noY yf := fun _ _ _ _ _ h => by cases h

theorem opK_e {ck : CallK} {yk : YieldK} (h1 : CallE fns sum ck) (h2 : YieldE fns sum yk) {T : PT AV} {H : AHeap} {nx : Pos} {op : AOp} {k : AV → AHeap → Pos → Bool} (h : opK ck yk T H nx op k = true) :
    ∃ n v H' nx', opA (callA fns sum (exec fns sum n)) (yieldA (exec fns sum n)) (ev T) H nx op = some (v, H', nx') ∧ k v H' nx' = true := by
  have other : opK noC noY T H nx op k = true → ∃ n v H' nx', opA (callA fns sum (exec fns sum n)) (yieldA (exec fns sum n)) (ev T) H nx op = some (v, H', nx') ∧ k v H' nx' = true := by
    intro h'
    obtain ⟨v, H', nx', e, hk⟩ := opK_some (noC_ok (callA fns sum (exec fns sum 0))) (noY_ok (yieldA (exec fns sum 0))) h'
    exact ⟨0, v, H', nx', e, hk⟩
  cases op
  case call g args =>
    have h : callK ck yk T H nx g args k = true := h
    unfold callK at h
    rw [evK_eq] at h
    rcases fnK_some h with ⟨f, fs, cs, e1, h⟩ | ⟨id, e1, h⟩
    · rw [evsK_eq, appK_eq, appK_eq] at h
      obtain ⟨n, v, H', nx', e2, e3⟩ := h1 _ _ _ _ _ h
      exact ⟨n, v, H', nx', by simp only [opA, e1]; exact e2, e3⟩
    · rw [evsK_eq] at h
      obtain ⟨n, v, H', nx', e2, e3⟩ := h2 _ _ _ _ _ h
      exact ⟨n, v, H', nx', by simp only [opA, e1]; exact e2, e3⟩
  all_goals exact other h

theorem cy_le {n m : Nat} (h : n ≤ m) : LeC (callA fns sum (exec fns sum n)) (callA fns sum (exec fns sum m)) ∧ LeY (yieldA (exec fns sum n)) (yieldA (exec fns sum m)) :=
  ⟨callA_le fns sum (exec_le_of fns sum h), yieldA_le (exec_le_of fns sum h)⟩

theorem seqK_e {ck : CallK} {yk : YieldK} (h1 : CallE fns sum ck) (h2 : YieldE fns sum yk) : ∀ {os : List AOper} {T : PT AV} {H : AHeap} {nx : Pos} {k : PT AV → AHeap → Pos → Bool},
    seqK ck yk os T H nx k = true → ∃ n T' H' nx', seqA (callA fns sum (exec fns sum n)) (yieldA (exec fns sum n)) os T H nx = some (T', H', nx') ∧ k T' H' nx' = true
  | [], T, H, nx, k, h => ⟨0, T, H, nx, rfl, h⟩
  | ⟨d, g, op⟩ :: os, T, H, nx, k, h => by
    have h' : wantK T g (fun _ => putTK d undefA T fun T => seqK ck yk os T H nx k) (fun _ => opK ck yk T H nx op fun v H nx => putTK d v T fun T => seqK ck yk os T H nx k) = true := h
    rcases wantK_some h' with ⟨e1, h3⟩ | ⟨e1, h3⟩
    · obtain ⟨n1, v, H', nx', e2, h4⟩ := opK_e fns sum h1 h2 h3
      rw [putTK_eq] at h4
      obtain ⟨n2, T3, H3, n3, e3, h5⟩ := seqK_e h1 h2 h4
      obtain ⟨c1, y1⟩ := cy_le fns sum (Nat.le_add_right n1 n2)
      obtain ⟨c2, y2⟩ := cy_le fns sum (Nat.le_add_left n2 n1)
      exact ⟨n1 + n2, T3, H3, n3, by simp only [seqA, e1, opA_le c1 y1 e2, seqA_le c2 y2 e3], h5⟩
    · rw [putTK_eq] at h3
      obtain ⟨n2, T3, H3, n3, e3, h5⟩ := seqK_e h1 h2 h3
      exact ⟨n2, T3, H3, n3, by simp only [seqA, e1, e3], h5⟩

theorem drwK_e {ck : CallK} {yk : YieldK} (h1 : CallE fns sum ck) (h2 : YieldE fns sum yk) : ∀ {os : List (Nat × Nat × AOper)} {Ss : List AHeap} {T : PT AV} {H : AHeap} {nx : Pos} {k : PT AV → AHeap → Pos → Bool},
    drwK ck yk os Ss T H nx k = true → ∃ n T' H' nx', drwA (callA fns sum (exec fns sum n)) (yieldA (exec fns sum n)) os Ss T H nx = some (T', H', nx') ∧ k T' H' nx' = true
  | [], Ss, T, H, nx, k, h => ⟨0, T, H, nx, rfl, h⟩
  | (s, q, ⟨d, g, op⟩) :: os, Ss, T, H, nx, k, h => by
    have h' : wantK T g (fun _ => putTK d undefA T fun T => sort3 s (fun _ => drwK ck yk os Ss T H nx k) (fun _ => drwK ck yk os Ss T H nx k) (fun _ => drwK ck yk os (H :: Ss) T H nx k))
        (fun _ => opK ck yk T H nx op fun v H' nx' => sort3 s
          (fun _ => putTK d v T fun T => drwK ck yk os Ss T H' nx' k)
          (fun _ => lookK T op v q Ss fun _ => putTK d v T fun T => drwK ck yk os Ss T H' nx' k)
          (fun _ => putTK d v T fun T => drwK ck yk os (H :: Ss) T H' nx' k)) = true := h
    rcases wantK_some h' with ⟨e1, h3⟩ | ⟨e1, h3⟩
    · obtain ⟨n1, v, H', nx', e2, h4⟩ := opK_e fns sum h1 h2 h3
      rcases sort3_some h4 with ⟨rfl, h5⟩ | ⟨rfl, h5⟩ | ⟨m1, m3, h5⟩
      · obtain ⟨hl, h5⟩ := lookK_some h5
        rw [putTK_eq] at h5
        obtain ⟨n2, T3, H3, n3, e3, h6⟩ := drwK_e h1 h2 h5
        obtain ⟨c1, y1⟩ := cy_le fns sum (Nat.le_add_right n1 n2)
        obtain ⟨c2, y2⟩ := cy_le fns sum (Nat.le_add_left n2 n1)
        rw [evR_eq] at hl
        exact ⟨n1 + n2, T3, H3, n3, by simp only [drwA, e1, opA_le c1 y1 e2, hl, drwA_le c2 y2 e3], h6⟩
      · rw [putTK_eq] at h5
        obtain ⟨n2, T3, H3, n3, e3, h6⟩ := drwK_e h1 h2 h5
        obtain ⟨c1, y1⟩ := cy_le fns sum (Nat.le_add_right n1 n2)
        obtain ⟨c2, y2⟩ := cy_le fns sum (Nat.le_add_left n2 n1)
        exact ⟨n1 + n2, T3, H3, n3, by simp only [drwA, e1, opA_le c1 y1 e2, drwA_le c2 y2 e3], h6⟩
      · rw [putTK_eq] at h5
        obtain ⟨n2, T3, H3, k3, e3, h6⟩ := drwK_e h1 h2 h5
        obtain ⟨c1, y1⟩ := cy_le fns sum (Nat.le_add_right n1 n2)
        obtain ⟨c2, y2⟩ := cy_le fns sum (Nat.le_add_left n2 n1)
        refine ⟨n1 + n2, T3, H3, k3, ?_, h6⟩
        simp only [drwA, e1, opA_le c1 y1 e2]
        exact drwA_le c2 y2 e3
    · rw [putTK_eq] at h3
      rcases sort3_some h3 with ⟨rfl, h5⟩ | ⟨rfl, h5⟩ | ⟨m1, m3, h5⟩
      · obtain ⟨n2, T3, H3, n3, e3, h6⟩ := drwK_e h1 h2 h5
        exact ⟨n2, T3, H3, n3, by simp only [drwA, e1, e3], h6⟩
      · obtain ⟨n2, T3, H3, n3, e3, h6⟩ := drwK_e h1 h2 h5
        exact ⟨n2, T3, H3, n3, by simp only [drwA, e1, e3], h6⟩
      · obtain ⟨n2, T3, H3, k3, e3, h6⟩ := drwK_e h1 h2 h5
        refine ⟨n2, T3, H3, k3, ?_, h6⟩
        simp only [drwA, e1]
        exact e3

theorem callX_e {ek : ExecK} (h : ExecE fns sum ek) : CallE fns sum (callX fns sum ek) := by
  intro f args H nx k hk
  unfold callX at hk
  cases hs : sum f args H with
  | some v => rw [hs] at hk; exact ⟨0, v, H, nx, by simp only [callA, hs], hk⟩
  | none =>
    rw [hs] at hk
    obtain ⟨fn, e1, hk⟩ := optK_some hk
    obtain ⟨rs, body⟩ := fn
    have hk : (bindK args (Pos.ofNat 0) .lf fun T => ek body none T [] H nx fun x T D H nx =>
      exK x (fun _ => endFnK rs T D H nx k) (fun _ => false) (fun _ => endFnK rs T D H nx k)) = true := hk
    rw [bindK_eq] at hk
    obtain ⟨n, x, s, e2, hk⟩ := h _ _ _ _ _ _ _ hk
    cases x with
    | normal =>
      obtain ⟨v, H', nx', e3, hk⟩ := endFnK_some (body := body) hk
      exact ⟨n, v, H', nx', by simp only [callA, hs, e1, e2]; exact e3, hk⟩
    | exit i => cases hk
    | ret =>
      obtain ⟨v, H', nx', e3, hk⟩ := endFnK_some (body := body) hk
      exact ⟨n, v, H', nx', by simp only [callA, hs, e1, e2]; exact e3, hk⟩

theorem yieldX_e {ek : ExecK} (h : ExecE fns sum ek) : YieldE fns sum (yieldX ek) := by
  intro id args H nx k hk
  simp only [yieldX, getR_eq, putB_eq] at hk
  split at hk
  · rename_i T ps asg body e1
    obtain ⟨T', e2, hk⟩ := optK_some hk
    obtain ⟨n1, x, s1, e3, hk⟩ := h _ _ _ _ _ _ _ hk
    split at hk
    · split at hk
      · rename_i T2 ps2 asg2 body2 e4
        obtain ⟨n2, x2, s2, e5, hk⟩ := h _ _ _ _ _ _ _ hk
        have e3 := exec_le_of fns sum (Nat.le_add_right n1 n2) _ _ _ _ e3
        have e5 := exec_le_of fns sum (Nat.le_add_left n2 n1) _ _ _ _ e5
        split at hk
        · rename_i T3 ps3 asg3 body3 e6 e7
          split at hk
          · exact ⟨n1 + n2, _, _, _, by simp only [yieldA, e1, e2, e3, e4, e5, e6, e7], hk⟩
          · exact ⟨n1 + n2, _, _, _, by simp only [yieldA, e1, e2, e3, e4, e5, e6, e7], hk⟩
          · exact ⟨n1 + n2, _, _, _, by simp only [yieldA, e1, e2, e3, e4, e5, e6, e7], hk⟩
        · cases hk
      · cases hk
    · cases hk
  · cases hk

noncomputable def sSeq (_ _ : AC) (iha ihb : CodeK) : CodeK := fun ck yk rk ek rd T D H nx k => iha ck yk rk ek rd T D H nx fun x T D H nx => exK x (fun _ => ihb ck yk rk ek rd T D H nx k) (fun i => k (.exit i) T D H nx) (fun _ => k .ret T D H nx)
noncomputable def sCond (x : AX) (_ _ : AC) (iha ihb : CodeK) : CodeK := fun ck yk rk ek rd T D H nx k => evK T x fun v => boolK v (fun _ => iha ck yk rk ek rd T D H nx k) (fun _ => ihb ck yk rk ek rd T D H nx k)
noncomputable def sBlock (id : Nat) (_ : AC) (iha : CodeK) : CodeK := fun ck yk rk ek rd T D H nx k => iha ck yk rk ek rd T D H nx fun x T D H nx => exK x (fun _ => k .normal T D H nx) (fun i => iteK (Nat.beq i id) (fun _ => k .normal T D H nx) (fun _ => k (.exit i) T D H nx)) (fun _ => k .ret T D H nx)
noncomputable def sLoop (a : AC) (iha : CodeK) : CodeK := fun ck yk rk ek rd T D H nx k => iha ck yk rk ek rd T D H nx fun x T D H nx => exK x (fun _ => ek (.loop a) rd T D H nx k) (fun i => k (.exit i) T D H nx) (fun _ => k .ret T D H nx)
noncomputable def runS (c : AC) : CodeK := @AC.rec (fun _ => CodeK) xSkip xReg xDrw sSeq sCond sBlock sLoop xRng xExit xRet xBad c
noncomputable def execS (ek : ExecK) : ExecK := fun c rd T D H nx k => runS c (callX fns sum ek) (yieldX ek) (rngX fns sum ek) ek rd T D H nx k

end
end Go.Abs
