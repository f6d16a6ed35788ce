/- The abstract interpreter, part X: the same runs once more, in a form that the kernel reckons quickly: all in continuations, by the recursors alone. What it finds true is so of the plain form. -/
import Derived.Test.YteofddgoedkhcaaGreatDoorAbsM
namespace Go.Abs

section
/-- Looking up. -/
noncomputable def getK {α : Type} (p : Pos) : PT α → (Option α → Bool) → Bool :=
  @Pos.rec (fun _ => PT α → (Option α → Bool) → Bool)
    (fun t k => @PT.rec α (fun _ => Bool) (k none) (fun _ v _ _ _ => k v) t)
    (fun _ ih t k => @PT.rec α (fun _ => Bool) (k none) (fun l _ _ _ _ => ih l k) t)
    (fun _ ih t k => @PT.rec α (fun _ => Bool) (k none) (fun _ _ r _ _ => ih r k) t) p

theorem getK_eq {α : Type} : ∀ (p : Pos) (t : PT α) (k : Option α → Bool), getK p t k = k (PT.get p t)
  | .h, .lf, _ => rfl
  | .h, .nd _ _ _, _ => rfl
  | .o _, .lf, _ => rfl
  | .o p, .nd l _ _, k => getK_eq p l k
  | .i _, .lf, _ => rfl
  | .i p, .nd _ _ r, k => getK_eq p r k

noncomputable def getR {α : Type} (p : Pos) : PT α → Option α :=
  @Pos.rec (fun _ => PT α → Option α)
    (fun t => @PT.rec α (fun _ => Option α) none (fun _ v _ _ _ => v) t)
    (fun _ ih t => @PT.rec α (fun _ => Option α) none (fun l _ _ _ _ => ih l) t)
    (fun _ ih t => @PT.rec α (fun _ => Option α) none (fun _ _ r _ _ => ih r) t) p

theorem getR_eq {α : Type} : ∀ (p : Pos) (t : PT α), getR p t = PT.get p t
  | .h, .lf => rfl
  | .h, .nd _ _ _ => rfl
  | .o _, .lf => rfl
  | .o p, .nd l _ _ => getR_eq p l
  | .i _, .lf => rfl
  | .i p, .nd _ _ r => getR_eq p r

noncomputable def evR (T : PT AV) (x : AX) : AV :=
  @AX.rec (fun _ => AV) (fun p => @Option.rec AV (fun _ => AV) undefA (fun v => v) (getR p T)) (fun v => v) x
theorem evR_eq (T : PT AV) : evR T = ev T := by
  funext x
  cases x with
  | t p =>
    show @Option.rec AV (fun _ => AV) undefA (fun v => v) (getR p T) = _
    rw [getR_eq]
    simp only [ev]
    cases PT.get p T <;> rfl
  | c v => rfl

/-- Putting. -/
noncomputable def putK {α : Type} (x : Option α) (p : Pos) : PT α → (PT α → Bool) → Bool :=
  @Pos.rec (fun _ => PT α → (PT α → Bool) → Bool)
    (fun t k => @PT.rec α (fun _ => Bool) (k (.nd .lf x .lf)) (fun l _ r _ _ => k (.nd l x r)) t)
    (fun _ ih t k => @PT.rec α (fun _ => Bool) (ih .lf fun l => k (.nd l none .lf)) (fun l v r _ _ => ih l fun l => k (.nd l v r)) t)
    (fun _ ih t k => @PT.rec α (fun _ => Bool) (ih .lf fun r => k (.nd .lf none r)) (fun l v r _ _ => ih r fun r => k (.nd l v r)) t) p

theorem putK_eq {α : Type} (x : Option α) : ∀ (p : Pos) (t : PT α) (k : PT α → Bool), putK x p t k = k (PT.put p x t)
  | .h, .lf, _ => rfl
  | .h, .nd _ _ _, _ => rfl
  | .o p, .lf, _ => putK_eq x p .lf _
  | .o p, .nd l _ _, _ => putK_eq x p l _
  | .i p, .lf, _ => putK_eq x p .lf _
  | .i p, .nd _ _ r, _ => putK_eq x p r _

noncomputable def optK {α : Type} (x : Option α) (k : α → Bool) : Bool := @Option.rec α (fun _ => Bool) false k x
theorem optK_some {α : Type} {x : Option α} {k : α → Bool} (h : optK x k = true) : ∃ a, x = some a ∧ k a = true := by
  cases x with
  | none => cases h
  | some a => exact ⟨a, rfl, h⟩

noncomputable def evK (T : PT AV) (x : AX) (k : AV → Bool) : Bool :=
  @AX.rec (fun _ => Bool) (fun p => getK p T fun v => @Option.rec AV (fun _ => Bool) (k undefA) k v) (fun v => k v) x
theorem evK_eq (T : PT AV) (x : AX) (k : AV → Bool) : evK T x k = k (ev T x) := by
  cases x with
  | t p =>
    show getK p T _ = _
    rw [getK_eq]
    simp only [ev]
    cases PT.get p T <;> rfl
  | c v => rfl

noncomputable def evsK (T : PT AV) (xs : List AX) : (List AV → Bool) → Bool :=
  @List.rec AX (fun _ => (List AV → Bool) → Bool) (fun k => k []) (fun x _ ih k => evK T x fun v => ih fun l => k (v :: l)) xs
theorem evsK_eq (T : PT AV) : ∀ (xs : List AX) (k : List AV → Bool), evsK T xs k = k (xs.map (ev T))
  | [], _ => rfl
  | x :: xs, k => by
    have : evsK T (x :: xs) k = evK T x fun v => evsK T xs fun l => k (v :: l) := rfl
    rw [this, evK_eq, evsK_eq T xs]
    rfl

/-- 'some' of a bit, or nothing. -/
noncomputable def wantK (T : PT AV) (g : Option (Pos × Bool)) (k0 k1 : Unit → Bool) : Bool :=
  @Option.rec (Pos × Bool) (fun _ => Bool) (k1 ()) (fun _ => optK (wantA T g) fun b => @Bool.rec (fun _ => Bool) (k0 ()) (k1 ()) b) g
theorem wantK_some {T : PT AV} {g : Option (Pos × Bool)} {k0 k1 : Unit → Bool} (h : wantK T g k0 k1 = true) : (wantA T g = some true ∧ k1 () = true) ∨ (wantA T g = some false ∧ k0 () = true) := by
  cases g with
  | none => exact .inl ⟨rfl, h⟩
  | some q =>
    obtain ⟨b, h1, h2⟩ := optK_some h
    cases b with
    | true => exact .inl ⟨h1, h2⟩
    | false => exact .inr ⟨h1, h2⟩

noncomputable def putTK (d : Option Pos) (v : AV) (T : PT AV) (k : PT AV → Bool) : Bool :=
  @Option.rec Pos (fun _ => Bool) (k T) (fun p => putK (some v) p T k) d
theorem putTK_eq (d : Option Pos) (v : AV) (T : PT AV) (k : PT AV → Bool) : putTK d v T k = k (putT d v T) := by
  cases d with
  | none => rfl
  | some p => exact putK_eq _ p T k

abbrev CallK := Nat → List AV → AHeap → Pos → (AV → AHeap → Pos → Bool) → Bool
abbrev YieldK := Pos → List AV → AHeap → Pos → (AV → AHeap → Pos → Bool) → Bool

def CallOK (ck : CallK) (cf : CallR) : Prop := ∀ f args H nx k, ck f args H nx k = true → ∃ v H' nx', cf f args H nx = some (v, H', nx') ∧ k v H' nx' = true
def YieldOK (ck : YieldK) (cf : YieldR) : Prop := ∀ f args H nx k, ck f args H nx k = true → ∃ v H' nx', cf f args H nx = some (v, H', nx') ∧ k v H' nx' = true

noncomputable def appK (l : List AV) (m : List AV) : (List AV → Bool) → Bool :=
  @List.rec AV (fun _ => (List AV → Bool) → Bool) (fun k => k m) (fun x _ ih k => ih fun r => k (x :: r)) l
theorem appK_eq (m : List AV) : ∀ (l : List AV) (k : List AV → Bool), appK l m k = k (l ++ m)
  | [], _ => rfl
  | _ :: l, _ => appK_eq m l _

/-- The function of a function value. -/
noncomputable def fnK (v : AV) (k : Nat → List AV → List AV → Bool) (ky : Pos → Bool) : Bool :=
  AV.casesOn (motive_1 := fun _ => Bool) v (fun _ => false) (fun _ _ => false) (fun _ _ _ => false) (fun _ => false) (fun _ => false) false (fun _ _ => false) false (fun _ _ _ _ _ _ => false) false
    (fun f fs cs => @Fn.rec (fun _ => Bool) (fun f => k f fs cs) (fun _ => false) (fun _ _ => false) (fun _ _ _ _ => false) (fun _ => false) f)
    (fun id => ky id) false (fun _ _ => false) false (fun _ => false) (fun _ => false) false

theorem fnK_some {v : AV} {k : Nat → List AV → List AV → Bool} {ky : Pos → Bool} (h : fnK v k ky = true) : (∃ f fs cs, v = .fn (.func f) fs cs ∧ k f fs cs = true) ∨ (∃ id, v = .yld id ∧ ky id = true) := by
  cases v <;> try (cases h; done)
  · rename_i f fs cs
    cases f <;> try (cases h; done)
    exact .inl ⟨_, _, _, rfl, h⟩
  · exact .inr ⟨_, rfl, h⟩

noncomputable def callK (ck : CallK) (yk : YieldK) (T : PT AV) (H : AHeap) (nx : Pos) (g : AX) (args : List AX) (k : AV → AHeap → Pos → Bool) : Bool :=
  evK T g fun fv => fnK fv (fun f fs cs => evsK T args fun l => appK l cs fun l => appK fs l fun l => ck f l H nx k) (fun id => evsK T args fun l => yk id l H nx k)

theorem callK_some {ck : CallK} {yk : YieldK} {cf : CallR} {yf : YieldR} (h1 : CallOK ck cf) (h2 : YieldOK yk yf) {T : PT AV} {H : AHeap} {nx : Pos} {g : AX} {args : List AX} {k : AV → AHeap → Pos → Bool}
    (h : callK ck yk T H nx g args k = true) : ∃ v H' nx', opA cf yf (ev T) H nx (.call g args) = some (v, H', nx') ∧ k v H' nx' = true := by
  unfold callK at h
  rw [evK_eq] at h
  rcases fnK_some h with ⟨f, fs, cs, e1, h⟩ | ⟨id, e1, h⟩
  · rw [evsK_eq, appK_eq, appK_eq] at h
    obtain ⟨v, H', nx', e2, e3⟩ := h1 _ _ _ _ _ h
    exact ⟨v, H', nx', by simp only [opA, e1]; exact e2, e3⟩
  · rw [evsK_eq] at h
    obtain ⟨v, H', nx', e2, e3⟩ := h2 _ _ _ _ _ h
    exact ⟨v, H', nx', by simp only [opA, e1]; exact e2, e3⟩

/-- Integers first. -/
noncomputable def binK (op : BinOp) (ek : EqK) (ks : List Nat) (x y : AV) (k : AV → Bool) : Bool := optK (binA op ek ks x y) k

/-- One operation. -/
noncomputable def opK (ck : CallK) (yk : YieldK) (T : PT AV) (H : AHeap) (nx : Pos) (op : AOp) (k : AV → AHeap → Pos → Bool) : Bool :=
  @AOp.rec (fun _ => Bool)
    (fun x => evK T x fun v => k v H nx) -- mov
    (fun c a b => optK (puA (evR T) (.pick c a b)) fun v => k v H nx)
    (fun z => k (.ptr nx 0) (PT.put nx (some (.cells false z)) H) nx.succ) -- new
    (fun x => optK (alA (evR T) (.box x)) fun q => k (resA nx q.2) (PT.put nx (some (.cells false q.1)) H) nx.succ)
    (fun z ps => optK (fillA (evR T) ps z) fun l => k (.agg l) H nx) -- build
    (fun z len es ps => optK (fillA (evR T) ps z) fun l => k (resA nx (some (len, true, len, es))) (PT.put nx (some (.cells false l)) H) nx.succ)
    (fun ag n a => optK (ldA (evR T) H (.load ag n a)) fun v => k v H nx)
    (fun n a x => optK (stA (evR T) H n a x) fun H' => k undefA H' nx)
    (fun x => optK (nilchkA (evR T x)) fun v => k v H nx)
    (fun op ek ks x y => evK T x fun a => evK T y fun b => binK op ek ks a b fun v => k v H nx) -- bin
    (fun op x => evK T x fun a => optK (unA op a) fun v => k v H nx)
    (fun q x => evK T x fun a => optK (cvI q a) fun v => k v H nx)
    (fun x => evK T x fun a => optK (cvS a) fun v => k v H nx)
    (fun x => optK (alA (evR T) (.s2b x)) fun q => k (resA nx q.2) (PT.put nx (some (.cells false q.1)) H) nx.succ)
    (fun x => optK (ldA (evR T) H (.b2s x)) fun v => k v H nx)
    (fun t x => evK T x fun a => k (.ifc t a) H nx)
    (fun f fs cs => evsK T fs fun a => evsK T cs fun b => k (.fn f a b) H nx)
    (fun s x lo hi => optK (puA (evR T) (.slS s x lo hi)) fun v => k v H nx)
    (fun x lo hi => optK (puA (evR T) (.slStr x lo hi)) fun v => k v H nx)
    (fun len s x lo hi => optK (ldA (evR T) H (.slA len s x lo hi)) fun v => k v H nx)
    (fun off x => optK (puA (evR T) (.fadr off x)) fun v => k v H nx)
    (fun ag off n x => optK (puA (evR T) (.fld ag off n x)) fun v => k v H nx)
    (fun s x ix => optK (puA (evR T) (.ixS s x ix)) fun v => k v H nx)
    (fun n s x ix => optK (puA (evR T) (.ixA n s x ix)) fun v => k v H nx)
    (fun ag n s x ix => optK (puA (evR T) (.ixv ag n s x ix)) fun v => k v H nx)
    (fun x ix => optK (puA (evR T) (.ixstr x ix)) fun v => k v H nx)
    (fun i x => optK (puA (evR T) (.extr i x)) fun v => k v H nx)
    (fun g args => callK ck yk T H nx g args k)
    (fun q x => optK (puA (evR T) (.len q x)) fun v => k v H nx)
    (fun x => optK (puA (evR T) (.cap x)) fun v => k v H nx)
    (fun n b s x => evK T s fun s => evK T x fun x => optK (apA H nx n b s x) fun q => k q.1 q.2.1 q.2.2)
    (fun _ _ _ _ => false)
    (fun _ _ _ _ _ => false)
    false op

theorem opK_some {ck : CallK} {yk : YieldK} {cf : CallR} {yf : YieldR} (h1 : CallOK ck cf) (h2 : YieldOK yk yf) {T : PT AV} {H : AHeap} {nx : Pos} {op : AOp} {k : AV → AHeap → Pos → Bool}
    (h : opK ck yk T H nx op k = true) : ∃ v H' nx', opA cf yf (ev T) H nx op = some (v, H', nx') ∧ k v H' nx' = true := by
  cases op <;> simp only [opK, evR_eq] at h
  case mov x => rw [evK_eq] at h; exact ⟨_, _, _, rfl, h⟩
  case pick c a b => obtain ⟨v, e, h⟩ := optK_some h; exact ⟨_, _, _, by simp only [opA, e], h⟩
  case new z => exact ⟨_, _, _, rfl, h⟩
  case box x => obtain ⟨⟨l, r⟩, e, h⟩ := optK_some h; exact ⟨_, _, _, by simp only [opA, e], h⟩
  case build z ps => obtain ⟨v, e, h⟩ := optK_some h; exact ⟨_, _, _, by simp only [opA, puA, e], h⟩
  case mksl z len es ps => obtain ⟨v, e, h⟩ := optK_some h; exact ⟨_, _, _, by simp only [opA, alA, e], h⟩
  case load ag n a => obtain ⟨v, e, h⟩ := optK_some h; exact ⟨_, _, _, by simp only [opA, e], h⟩
  case store n a x => obtain ⟨v, e, h⟩ := optK_some h; exact ⟨_, _, _, by simp only [opA, e], h⟩
  case nilchk x => obtain ⟨v, e, h⟩ := optK_some h; exact ⟨_, _, _, by simp only [opA, puA, e], h⟩
  case bin op ek ks x y =>
    rw [evK_eq, evK_eq] at h
    obtain ⟨v, e, h⟩ := optK_some h; exact ⟨_, _, _, by simp only [opA, puA, e], h⟩
  case un op x => rw [evK_eq] at h; obtain ⟨v, e, h⟩ := optK_some h; exact ⟨_, _, _, by simp only [opA, puA, e], h⟩
  case cvi op x => rw [evK_eq] at h; obtain ⟨v, e, h⟩ := optK_some h; exact ⟨_, _, _, by simp only [opA, puA, e], h⟩
  case cvs x => rw [evK_eq] at h; obtain ⟨v, e, h⟩ := optK_some h; exact ⟨_, _, _, by simp only [opA, puA, e], h⟩
  case s2b x => obtain ⟨⟨l, r⟩, e, h⟩ := optK_some h; exact ⟨_, _, _, by simp only [opA, e], h⟩
  case b2s x => obtain ⟨v, e, h⟩ := optK_some h; exact ⟨_, _, _, by simp only [opA, e], h⟩
  case mkif t x => rw [evK_eq] at h; exact ⟨_, _, _, rfl, h⟩
  case mkfn f fs cs => rw [evsK_eq, evsK_eq] at h; exact ⟨_, _, _, rfl, h⟩
  case slS => obtain ⟨v, e, h⟩ := optK_some h; exact ⟨_, _, _, by simp only [opA, e], h⟩
  case slStr => obtain ⟨v, e, h⟩ := optK_some h; exact ⟨_, _, _, by simp only [opA, e], h⟩
  case slA => obtain ⟨v, e, h⟩ := optK_some h; exact ⟨_, _, _, by simp only [opA, e], h⟩
  case fadr => obtain ⟨v, e, h⟩ := optK_some h; exact ⟨_, _, _, by simp only [opA, e], h⟩
  case fld => obtain ⟨v, e, h⟩ := optK_some h; exact ⟨_, _, _, by simp only [opA, e], h⟩
  case ixS => obtain ⟨v, e, h⟩ := optK_some h; exact ⟨_, _, _, by simp only [opA, e], h⟩
  case ixA => obtain ⟨v, e, h⟩ := optK_some h; exact ⟨_, _, _, by simp only [opA, e], h⟩
  case ixv => obtain ⟨v, e, h⟩ := optK_some h; exact ⟨_, _, _, by simp only [opA, e], h⟩
  case ixstr => obtain ⟨v, e, h⟩ := optK_some h; exact ⟨_, _, _, by simp only [opA, e], h⟩
  case extr => obtain ⟨v, e, h⟩ := optK_some h; exact ⟨_, _, _, by simp only [opA, e], h⟩
  case call => exact callK_some h1 h2 h
  case len => obtain ⟨v, e, h⟩ := optK_some h; exact ⟨_, _, _, by simp only [opA, e], h⟩
  case cap => obtain ⟨v, e, h⟩ := optK_some h; exact ⟨_, _, _, by simp only [opA, e], h⟩
  case app n b s x =>
    rw [evK_eq, evK_eq] at h
    obtain ⟨⟨v, H', nx'⟩, e, h⟩ := optK_some h; exact ⟨_, _, _, by simp only [opA, e], h⟩
  all_goals cases h

/-- Operations in order. -/
noncomputable def seqK (ck : CallK) (yk : YieldK) (os : List AOper) : PT AV → AHeap → Pos → (PT AV → AHeap → Pos → Bool) → Bool :=
  @List.rec AOper (fun _ => PT AV → AHeap → Pos → (PT AV → AHeap → Pos → Bool) → Bool)
    (fun T H nx k => k T H nx)
    (fun o _ ih T H nx k => @AOper.rec (fun _ => Bool) (fun d g op =>
      wantK T g (fun _ => putTK d undefA T fun T => ih T H nx k) (fun _ => opK ck yk T H nx op fun v H nx => putTK d v T fun T => ih T H nx k)) o) os

theorem seqK_some {ck : CallK} {yk : YieldK} {cf : CallR} {yf : YieldR} (h1 : CallOK ck cf) (h2 : YieldOK yk yf) : ∀ {os : List AOper} {T : PT AV} {H : AHeap} {nx : Pos} {k : PT AV → AHeap → Pos → Bool},
    seqK ck yk os T H nx k = true → ∃ T' H' nx', seqA cf yf os T H nx = some (T', H', nx') ∧ k T' H' nx' = true
  | [], T, H, nx, k, h => ⟨T, H, nx, rfl, h⟩
  | ⟨d, g, op⟩ :: os, T, H, nx, k, h => by
    have h' : wantK T g (fun _ => putTK d undefA T fun T => seqK ck yk os T H nx k) (fun _ => opK ck yk T H nx op fun v H nx => putTK d v T fun T => seqK ck yk os T H nx k) = true := h
    rcases wantK_some h' with ⟨e1, h3⟩ | ⟨e1, h3⟩
    · obtain ⟨v, H', nx', e2, h4⟩ := opK_some h1 h2 h3
      rw [putTK_eq] at h4
      obtain ⟨T3, H3, n3, e3, h5⟩ := seqK_some h1 h2 h4
      exact ⟨T3, H3, n3, by simp only [seqA, e1, e2, e3], h5⟩
    · rw [putTK_eq] at h3
      obtain ⟨T3, H3, n3, e3, h5⟩ := seqK_some h1 h2 h3
      exact ⟨T3, H3, n3, by simp only [seqA, e1, e3], h5⟩

noncomputable def lookK (T : PT AV) (op : AOp) (v : AV) (q : Nat) (Ss : List AHeap) (k : Unit → Bool) : Bool := @Bool.rec (fun _ => Bool) false (k ()) (lookBack (evR T) op v q Ss)

noncomputable def sort3 (s : Nat) (a b c : Unit → Bool) : Bool :=
  @Nat.rec (fun _ => Bool) (a ()) (fun s _ => @Nat.rec (fun _ => Bool) (b ()) (fun s _ => @Nat.rec (fun _ => Bool) (a ()) (fun s _ => @Nat.rec (fun _ => Bool) (c ()) (fun _ _ => a ()) s) s) s) s

/-- Operations whose order is open. -/
noncomputable def drwK (ck : CallK) (yk : YieldK) (os : List (Nat × Nat × AOper)) : List AHeap → PT AV → AHeap → Pos → (PT AV → AHeap → Pos → Bool) → Bool :=
  @List.rec (Nat × Nat × AOper) (fun _ => List AHeap → PT AV → AHeap → Pos → (PT AV → AHeap → Pos → Bool) → Bool)
    (fun _ T H nx k => k T H nx)
    (fun o _ ih Ss T H nx k => @Prod.rec Nat (Nat × AOper) (fun _ => Bool) (fun s o => @Prod.rec Nat AOper (fun _ => Bool) (fun q o => @AOper.rec (fun _ => Bool) (fun d g op =>
      wantK T g (fun _ => putTK d undefA T fun T => sort3 s (fun _ => ih Ss T H nx k) (fun _ => ih Ss T H nx k) (fun _ => ih (H :: Ss) T H nx k))
        (fun _ => opK ck yk T H nx op fun v H' nx' => sort3 s
          (fun _ => putTK d v T fun T => ih Ss T H' nx' k)
          (fun _ => lookK T op v q Ss fun _ => putTK d v T fun T => ih Ss T H' nx' k)
          (fun _ => putTK d v T fun T => ih (H :: Ss) T H' nx' k))) o) o) o) os

theorem sort3_some {s : Nat} {a b c : Unit → Bool} (h : sort3 s a b c = true) : (s = 1 ∧ b () = true) ∨ (s = 3 ∧ c () = true) ∨ (s ≠ 1 ∧ s ≠ 3 ∧ a () = true) := by
  match s, h with
  | 0, h => exact .inr (.inr ⟨by omega, by omega, h⟩)
  | 1, h => exact .inl ⟨rfl, h⟩
  | 2, h => exact .inr (.inr ⟨by omega, by omega, h⟩)
  | 3, h => exact .inr (.inl ⟨rfl, h⟩)
  | s + 4, h => exact .inr (.inr ⟨by omega, by omega, h⟩)

theorem drwK_some {ck : CallK} {yk : YieldK} {cf : CallR} {yf : YieldR} (h1 : CallOK ck cf) (h2 : YieldOK yk yf) : ∀ {os : List (Nat × Nat × AOper)} {Ss : List AHeap} {T : PT AV} {H : AHeap} {nx : Pos} {k : PT AV → AHeap → Pos → Bool},
    drwK ck yk os Ss T H nx k = true → ∃ T' H' nx', drwA cf yf os Ss T H nx = some (T', H', nx') ∧ k T' H' nx' = true
  | [], Ss, T, H, nx, k, h => ⟨T, H, nx, rfl, h⟩
  | (s, q, ⟨d, g, op⟩) :: os, Ss, T, H, nx, k, h => by
    have h' : wantK T g (fun _ => putTK d undefA T fun T => sort3 s (fun _ => drwK ck yk os Ss T H nx k) (fun _ => drwK ck yk os Ss T H nx k) (fun _ => drwK ck yk os (H :: Ss) T H nx k))
        (fun _ => opK ck yk T H nx op fun v H' nx' => sort3 s
          (fun _ => putTK d v T fun T => drwK ck yk os Ss T H' nx' k)
          (fun _ => lookK T op v q Ss fun _ => putTK d v T fun T => drwK ck yk os Ss T H' nx' k)
          (fun _ => putTK d v T fun T => drwK ck yk os (H :: Ss) T H' nx' k)) = true := h
    rcases wantK_some h' with ⟨e1, h3⟩ | ⟨e1, h3⟩
    · obtain ⟨v, H', nx', e2, h4⟩ := opK_some h1 h2 h3
      rcases sort3_some h4 with ⟨rfl, h5⟩ | ⟨rfl, h5⟩ | ⟨n1, n3, h5⟩
      · unfold lookK at h5
        cases hl : lookBack (evR T) op v q Ss with
        | false => rw [hl] at h5; cases h5
        | true =>
          rw [hl] at h5
          have h5 : putTK d v T (fun T => drwK ck yk os Ss T H' nx' k) = true := h5
          rw [putTK_eq] at h5
          obtain ⟨T3, H3, n3, e3, h6⟩ := drwK_some h1 h2 h5
          rw [evR_eq] at hl
          exact ⟨T3, H3, n3, by simp only [drwA, e1, e2, hl, e3], h6⟩
      · rw [putTK_eq] at h5
        obtain ⟨T3, H3, n3, e3, h6⟩ := drwK_some h1 h2 h5
        exact ⟨T3, H3, n3, by simp only [drwA, e1, e2, e3], h6⟩
      · rw [putTK_eq] at h5
        obtain ⟨T3, H3, m3, e3, h6⟩ := drwK_some h1 h2 h5
        refine ⟨T3, H3, m3, ?_, h6⟩
        simp only [drwA, e1, e2]
        exact e3
    · rw [putTK_eq] at h3
      rcases sort3_some h3 with ⟨rfl, h5⟩ | ⟨rfl, h5⟩ | ⟨n1, n3, h5⟩
      · obtain ⟨T3, H3, n3, e3, h6⟩ := drwK_some h1 h2 h5
        exact ⟨T3, H3, n3, by simp only [drwA, e1, e3], h6⟩
      · obtain ⟨T3, H3, n3, e3, h6⟩ := drwK_some h1 h2 h5
        exact ⟨T3, H3, n3, by simp only [drwA, e1, e3], h6⟩
      · obtain ⟨T3, H3, m3, e3, h6⟩ := drwK_some h1 h2 h5
        refine ⟨T3, H3, m3, ?_, h6⟩
        simp only [drwA, e1]
        exact e3

section
variable (fns : Nat → Option AFn) (sum : Nat → List AV → AHeap → Option AV)
abbrev ExecK := AC → Option Pos → PT AV → List Pos → AHeap → Pos → (AEx → PT AV → List Pos → AHeap → Pos → Bool) → Bool

def ExecOK (ek : ExecK) (ex : ExecR) : Prop := ∀ c rd T D H nx k, ek c rd T D H nx k = true → ∃ x s, ex c rd ⟨T, D, H, nx⟩ = some (x, s) ∧ k x s.T s.D s.H s.nx = true

noncomputable def bindK (vs : List AV) : Nat → PT AV → (PT AV → Bool) → Bool :=
  @List.rec AV (fun _ => Nat → PT AV → (PT AV → Bool) → Bool) (fun _ T k => k T) (fun v _ ih n T k => putK (some v) (Pos.ofNat n) T fun T => ih (Nat.succ n) T k) vs
theorem bindK_eq : ∀ (vs : List AV) (n : Nat) (T : PT AV) (k : PT AV → Bool), bindK vs n T k = k (bindT vs n T)
  | [], _, _, _ => rfl
  | v :: vs, n, T, k => by
    have : bindK (v :: vs) n T k = putK (some v) (Pos.ofNat n) T fun T => bindK vs (n + 1) T k := rfl
    rw [this, putK_eq, bindK_eq vs]; rfl

noncomputable def callX (ek : ExecK) : CallK := fun f args H nx k =>
  @Option.rec AV (fun _ => Bool)
    (optK (fns f) fun fn => @AFn.rec (fun _ => Bool) (fun rs body => bindK args 0 .lf fun T => ek body none T [] H nx fun x T D H nx =>
      @AEx.rec (fun _ => Bool) (optK (endFn ⟨rs, body⟩ ⟨T, D, H, nx⟩) fun q => k q.1 q.2.1 q.2.2) (fun _ => false) (optK (endFn ⟨rs, body⟩ ⟨T, D, H, nx⟩) fun q => k q.1 q.2.1 q.2.2) x) fn)
    (fun v => k v H nx) (sum f args H)

theorem callX_ok {ek : ExecK} {ex : ExecR} (h : ExecOK ek ex) : CallOK (callX fns sum ek) (callA fns sum ex) := by
  intro f args H nx k hk
  unfold callX at hk
  cases hs : sum f args H with
  | some v => rw [hs] at hk; exact ⟨v, H, nx, by simp only [callA, hs], hk⟩
  | none =>
    rw [hs] at hk
    obtain ⟨fn, e1, hk⟩ := optK_some hk
    obtain ⟨rs, body⟩ := fn
    have hk : (bindK args 0 .lf fun T => ek body none T [] H nx fun x T D H nx =>
      @AEx.rec (fun _ => Bool) (optK (endFn ⟨rs, body⟩ ⟨T, D, H, nx⟩) fun q => k q.1 q.2.1 q.2.2) (fun _ => false) (optK (endFn ⟨rs, body⟩ ⟨T, D, H, nx⟩) fun q => k q.1 q.2.1 q.2.2) x) = true := hk
    rw [bindK_eq] at hk
    obtain ⟨x, s, e2, hk⟩ := h _ _ _ _ _ _ _ hk
    cases x with
    | normal =>
      obtain ⟨⟨v, H', nx'⟩, e3, hk⟩ := optK_some hk
      exact ⟨v, H', nx', by simp only [callA, hs, e1, e2]; exact e3, hk⟩
    | exit i => cases hk
    | ret =>
      obtain ⟨⟨v, H', nx'⟩, e3, hk⟩ := optK_some hk
      exact ⟨v, H', nx', by simp only [callA, hs, e1, e2]; exact e3, hk⟩

/-- A round of a range over a function: as in the plain form, its two runs in continuations. -/
noncomputable def yieldX (ek : ExecK) : YieldK := fun id args H nx k =>
  match PT.get id H with
  | some (.loop true none T ps asg body) => optK (setPs ps args T) fun T' => ek asg (some id) T' [] H nx fun x T1 D1 H1 nx1 => match x with
    | .normal => match PT.get id H1 with
      | some (.loop true none T2 ps2 asg2 body2) => ek body (some id) T1 D1 (PT.put id (some (.loop false none T2 ps2 asg2 body2)) H1) nx1 fun x _ D3 H3 nx3 =>
        match D3, PT.get id H3 with
        | [], some (.loop false none T3 ps3 asg3 body3) => match x with
          | .normal => k (.bool true) (PT.put id (some (.loop true none T3 ps3 asg3 body3)) H3) nx3
          | .ret => k (.bool false) (PT.put id (some (.loop false (some none) T3 ps3 asg3 body3)) H3) nx3
          | .exit i => k (.bool false) (PT.put id (some (.loop false (some (some i)) T3 ps3 asg3 body3)) H3) nx3
        | _, _ => false
      | _ => false
    | _ => false
  | _ => false

theorem yieldX_ok {ek : ExecK} {ex : ExecR} (h : ExecOK ek ex) : YieldOK (yieldX ek) (yieldA ex) := by
  intro id args H nx k hk
  simp only [yieldX] at hk
  split at hk
  · rename_i T ps asg body e1
    obtain ⟨T', e2, hk⟩ := optK_some hk
    obtain ⟨x, s1, e3, hk⟩ := h _ _ _ _ _ _ _ hk
    split at hk
    · split at hk
      · rename_i T2 ps2 asg2 body2 e4
        obtain ⟨x2, s2, e5, hk⟩ := h _ _ _ _ _ _ _ hk
        split at hk
        · rename_i T3 ps3 asg3 body3 e6 e7
          split at hk
          · exact ⟨_, _, _, by simp only [yieldA, e1, e2, e3, e4, e5, e6, e7], hk⟩
          · exact ⟨_, _, _, by simp only [yieldA, e1, e2, e3, e4, e5, e6, e7], hk⟩
          · exact ⟨_, _, _, by simp only [yieldA, e1, e2, e3, e4, e5, e6, e7], hk⟩
        · cases hk
      · cases hk
    · cases hk
  · cases hk

noncomputable def boolK (v : AV) (a b : Unit → Bool) : Bool :=
  AV.casesOn (motive_1 := fun _ => Bool) v (fun q => @Bool.rec (fun _ => Bool) (b ()) (a ()) q) (fun _ _ => false) (fun _ _ _ => false) (fun _ => false) (fun _ => false) false (fun _ _ => false) false (fun _ _ _ _ _ _ => false) false
    (fun _ _ _ => false) (fun _ => false) false (fun _ _ => false) false (fun _ => false) (fun _ => false) false
theorem boolK_some {v : AV} {a b : Unit → Bool} (h : boolK v a b = true) : (v = .bool true ∧ a () = true) ∨ (v = .bool false ∧ b () = true) := by
  cases v <;> try (cases h; done)
  rename_i q
  cases q
  · exact .inr ⟨rfl, h⟩
  · exact .inl ⟨rfl, h⟩

/-- A range over a function. -/
noncomputable def rngX (ek : ExecK) (f : AX) (ps : List Pos) (asg body : AC) (rd : Option Pos) (T : PT AV) (D : List Pos) (H : AHeap) (nx : Pos) (k : AEx → PT AV → List Pos → AHeap → Pos → Bool) : Bool :=
  match rd with
  | some _ => false
  | none => evK T f fun fv => fnK fv (fun g fs cs => callX fns sum ek g (fs ++ (.yld nx.succ :: cs)) (PT.put nx.succ (some (.loop true none T ps asg body)) (PT.put nx (some .dfr) H)) nx.succ.succ fun _ H' nx' =>
      match PT.get nx.succ H' with
      | some (.loop true none _ _ _ _) => k .normal T (nx :: D) (PT.put nx.succ none H') nx'
      | some (.loop false (some none) _ _ _ _) => k .ret T (nx :: D) (PT.put nx.succ none H') nx'
      | some (.loop false (some (some i)) _ _ _ _) => k (.exit i) T (nx :: D) (PT.put nx.succ none H') nx'
      | _ => false) (fun _ => false)

noncomputable def execX (ek : ExecK) : ExecK := fun c rd T D H nx k =>
  @AC.rec (fun _ => Bool)
    (k .normal T D H nx)
    (fun ops => seqK (callX fns sum ek) (yieldX ek) ops T H nx fun T H nx => k .normal T D H nx)
    (fun ops => drwK (callX fns sum ek) (yieldX ek) ops [] T H nx fun T H nx => k .normal T D H nx)
    (fun a b _ _ => ek a rd T D H nx fun x T D H nx => @AEx.rec (fun _ => Bool) (ek b rd T D H nx k) (fun i => k (.exit i) T D H nx) (k .ret T D H nx) x)
    (fun x a b _ _ => evK T x fun v => boolK v (fun _ => ek a rd T D H nx k) (fun _ => ek b rd T D H nx k))
    (fun id a _ => ek a rd T D H nx fun x T D H nx => @AEx.rec (fun _ => Bool) (k .normal T D H nx) (fun i => @Bool.rec (fun _ => Bool) (k (.exit i) T D H nx) (k .normal T D H nx) (Nat.beq i id)) (k .ret T D H nx) x)
    (fun a _ => ek a rd T D H nx fun x T D H nx => @AEx.rec (fun _ => Bool) (ek (.loop a) rd T D H nx k) (fun i => k (.exit i) T D H nx) (k .ret T D H nx) x)
    (fun f ps asg body _ _ => rngX fns sum ek f ps asg body rd T D H nx k)
    (fun id => k (.exit id) T D H nx)
    (k .ret T D H nx)
    false c

theorem execX_ok {ek : ExecK} {ex : ExecR} (h : ExecOK ek ex) : ExecOK (execX fns sum ek) (execF fns sum ex) := by
  intro c rd T D H nx k hk
  cases c with
  | skip => exact ⟨.normal, _, rfl, hk⟩
  | reg ops =>
    have hk : seqK (callX fns sum ek) (yieldX ek) ops T H nx (fun T H nx => k .normal T D H nx) = true := hk
    obtain ⟨T', H', nx', e, hk⟩ := seqK_some (callX_ok fns sum h) (yieldX_ok h) hk
    exact ⟨.normal, ⟨T', D, H', nx'⟩, by simp only [execF, e], hk⟩
  | drw ops =>
    have hk : drwK (callX fns sum ek) (yieldX ek) ops [] T H nx (fun T H nx => k .normal T D H nx) = true := hk
    obtain ⟨T', H', nx', e, hk⟩ := drwK_some (callX_ok fns sum h) (yieldX_ok h) hk
    exact ⟨.normal, ⟨T', D, H', nx'⟩, by simp only [execF, e], hk⟩
  | seq a b =>
    have hk : ek a rd T D H nx (fun x T D H nx => @AEx.rec (fun _ => Bool) (ek b rd T D H nx k) (fun i => k (.exit i) T D H nx) (k .ret T D H nx) x) = true := hk
    obtain ⟨x, s, e, hk⟩ := h _ _ _ _ _ _ _ hk
    cases x with
    | normal =>
      obtain ⟨x2, s2, e2, hk⟩ := h _ _ _ _ _ _ _ hk
      exact ⟨x2, s2, by simp only [execF, e]; exact e2, hk⟩
    | exit i => exact ⟨_, s, by simp only [execF, e], hk⟩
    | ret => exact ⟨_, s, by simp only [execF, e], hk⟩
  | cond x a b =>
    have hk : evK T x (fun v => boolK v (fun _ => ek a rd T D H nx k) (fun _ => ek b rd T D H nx k)) = true := hk
    rw [evK_eq] at hk
    rcases boolK_some hk with ⟨e, hk⟩ | ⟨e, hk⟩
    · obtain ⟨x2, s2, e2, hk⟩ := h _ _ _ _ _ _ _ hk
      exact ⟨x2, s2, by simp only [execF, e]; exact e2, hk⟩
    · obtain ⟨x2, s2, e2, hk⟩ := h _ _ _ _ _ _ _ hk
      exact ⟨x2, s2, by simp only [execF, e]; exact e2, hk⟩
  | block id a =>
    have hk : ek a rd T D H nx (fun x T D H nx => @AEx.rec (fun _ => Bool) (k .normal T D H nx) (fun i => @Bool.rec (fun _ => Bool) (k (.exit i) T D H nx) (k .normal T D H nx) (Nat.beq i id)) (k .ret T D H nx) x) = true := hk
    obtain ⟨x, s, e, hk⟩ := h _ _ _ _ _ _ _ hk
    cases x with
    | normal => exact ⟨_, s, by simp only [execF, e], hk⟩
    | exit i =>
      cases hb : Nat.beq i id with
      | true =>
        have hk : @Bool.rec (fun _ => Bool) (k (.exit i) s.T s.D s.H s.nx) (k .normal s.T s.D s.H s.nx) (Nat.beq i id) = true := hk
        rw [hb] at hk
        exact ⟨.normal, s, by simp only [execF, e, hb, if_true], hk⟩
      | false =>
        have hk : @Bool.rec (fun _ => Bool) (k (.exit i) s.T s.D s.H s.nx) (k .normal s.T s.D s.H s.nx) (Nat.beq i id) = true := hk
        rw [hb] at hk
        exact ⟨.exit i, s, by simp only [execF, e, hb]; rfl, hk⟩
    | ret => exact ⟨_, s, by simp only [execF, e], hk⟩
  | loop a =>
    have hk : ek a rd T D H nx (fun x T D H nx => @AEx.rec (fun _ => Bool) (ek (.loop a) rd T D H nx k) (fun i => k (.exit i) T D H nx) (k .ret T D H nx) x) = true := hk
    obtain ⟨x, s, e, hk⟩ := h _ _ _ _ _ _ _ hk
    cases x with
    | normal =>
      obtain ⟨x2, s2, e2, hk⟩ := h _ _ _ _ _ _ _ hk
      exact ⟨x2, s2, by simp only [execF, e]; exact e2, hk⟩
    | exit i => exact ⟨_, s, by simp only [execF, e], hk⟩
    | ret => exact ⟨_, s, by simp only [execF, e], hk⟩
  | rng f ps asg body =>
    have hk : rngX fns sum ek f ps asg body rd T D H nx k = true := hk
    unfold rngX at hk
    split at hk
    · cases hk
    · rw [evK_eq] at hk
      rcases fnK_some hk with ⟨g, fs, cs, e1, hk⟩ | ⟨_, _, hk⟩
      · obtain ⟨v, H', nx', e2, hk⟩ := callX_ok fns sum h _ _ _ _ _ hk
        split at hk
        · rename_i e3
          exact ⟨.normal, ⟨T, nx :: D, PT.put nx.succ none H', nx'⟩, by simp only [execF, e1, e2, e3], hk⟩
        · rename_i e3
          exact ⟨.ret, ⟨T, nx :: D, PT.put nx.succ none H', nx'⟩, by simp only [execF, e1, e2, e3], hk⟩
        · rename_i i _ _ _ _ e3
          exact ⟨.exit i, ⟨T, nx :: D, PT.put nx.succ none H', nx'⟩, by simp only [execF, e1, e2, e3], hk⟩
        · cases hk
      · cases hk
  | exit id => exact ⟨_, _, rfl, hk⟩
  | ret => exact ⟨_, _, rfl, hk⟩
  | bad => cases hk

noncomputable def execN (n : Nat) : ExecK := @Nat.rec (fun _ => ExecK) (fun _ _ _ _ _ _ _ => false) (fun _ ih => execX fns sum ih) n

theorem execN_ok : ∀ n, ExecOK (execN fns sum n) (exec fns sum n)
  | 0 => fun _ _ _ _ _ _ _ h => by cases h
  | n + 1 => execX_ok fns sum (execN_ok n)

noncomputable def topK (n : Nat) : CallK := callX fns sum (execN fns sum n)

theorem topK_some {n f : Nat} {args : List AV} {H : AHeap} {nx : Pos} {k : AV → AHeap → Pos → Bool} (h : topK fns sum n f args H nx k = true) :
    ∃ v H' nx', top fns sum n f args H nx = some (v, H', nx') ∧ k v H' nx' = true := callX_ok fns sum (execN_ok fns sum n) _ _ _ _ _ h
end
end
end Go.Abs
