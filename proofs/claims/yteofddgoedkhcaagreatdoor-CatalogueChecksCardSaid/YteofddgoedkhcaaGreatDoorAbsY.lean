/- The abstract interpreter, part Y: regions whose order is open: the heap on the way. -/
import Derived.Test.YteofddgoedkhcaaGreatDoorAbsW
namespace Go.Abs

/-- A region's chosen order, and its states. -/
structure Reg (P : Program) (gs : List Nat) (cf : CallR) (yf : YieldR) (N : Nat) (ops : Array Oper) (E : List Ent) (t : Nat → PT AV) (h : Nat → AHeap) (x : Nat → Pos) (v : Nat → AV) (sn : Nat → List AHeap) : Prop where
  tr : Tr cf yf (E.map fun e => (e.s, e.k, e.o)) t h x v sn
  ent : ∀ (c : Nat) (e : Ent), E[c]? = some e → (∃ o, ops[e.i]? = some o ∧ OperOK P gs N ops o e.o) ∧ e.m = (masks ops.toList []).getD e.i 0 ∧ e.s = e.o.op.sort
  all : okAll E [] [] = true
  cov : ∀ i, i < ops.size → ∃ (c : Nat) (e : Ent), E[c]? = some e ∧ e.i = i
  edges : ∀ i o, ops[i]? = some o → ∀ e ∈ o.after, Region.binds .any e = true → e.on < i
  sn0 : sn 0 = []
  mono : ∀ c, c < E.length → (x c).toNat ≤ (x (c + 1)).toNat

/-- A new block is made at this place. -/
def AlAt (E : List Ent) (t : Nat → PT AV) (h : Nat → AHeap) (x : Nat → Pos) (c : Nat) (id : Pos) (k : Blk) : Prop :=
  ∃ (e : Ent) (l : List AV), E[c]? = some e ∧ e.s = 2 ∧ wantA (t c) e.o.guard = some true ∧ id = x c ∧ k = .cells false l ∧ h (c + 1) = PT.put (x c) (some (.cells false l)) (h c) ∧ x (c + 1) = (x c).succ

section
variable {P : Program} {gs : List Nat} {cf : CallR} {yf : YieldR} {N : Nat} {ops : Array Oper} {E : List Ent} {t : Nat → PT AV} {h : Nat → AHeap} {x : Nat → Pos} {v : Nat → AV} {sn : Nat → List AHeap}

theorem Reg.le (R : Reg P gs cf yf N ops E t h x v sn) : ∀ {c d : Nat}, c ≤ d → d ≤ E.length → (x c).toNat ≤ (x d).toNat
  | c, 0, hc, _ => by have : c = 0 := by omega
                      subst this; exact Nat.le_refl _
  | c, d + 1, hc, hd => by
    by_cases hcd : c = d + 1
    · subst hcd; exact Nat.le_refl _
    · exact Nat.le_trans (R.le (c := c) (d := d) (by omega) (by omega)) (R.mono d (by omega))

theorem Reg.pair (R : Reg P gs cf yf N ops E t h x v sn) {c d : Nat} {a b : Ent} (hcd : c < d) (ha : E[c]? = some a) (hb : E[d]? = some b) :
    (hits a.o.dst b.o = true → b.m.testBit a.i = true) ∧ (hits b.o.dst a.o = true → b.m.testBit a.i = true) ∧ (b.s = 3 → b.m.testBit a.i = true) ∧ a.i ≠ b.i := by
  have := (okAll_pair E [] [] R.all).2 c d a b hcd ha hb
  simp only [okPair, Bool.and_eq_true, Bool.not_eq_true'] at this
  obtain ⟨⟨⟨⟨h1, h2⟩, h3⟩, _⟩, h5⟩ := this
  refine ⟨fun q => by rw [if_pos q] at h1; exact h1, fun q => by rw [if_pos q] at h2; exact h2, fun q => by rw [if_pos q] at h3; exact h3, fun q => ?_⟩
  rw [q, Nat.beq_refl] at h5; cases h5

theorem Reg.inj (R : Reg P gs cf yf N ops E t h x v sn) {c d : Nat} {a b : Ent} (ha : E[c]? = some a) (hb : E[d]? = some b) (hi : a.i = b.i) : c = d := by
  rcases Nat.lt_trichotomy c d with q | q | q
  · exact absurd hi (R.pair q ha hb).2.2.2
  · exact q
  · exact absurd hi.symm (R.pair q hb ha).2.2.2

theorem Reg.trace (R : Reg P gs cf yf N ops E t h x v sn) {c : Nat} {e : Ent} (he : E[c]? = some e) :
    (wantA (t c) e.o.guard = some true ∧ opA cf yf (ev (t c)) (h c) (x c) e.o.op = some (v c, h (c + 1), x (c + 1)) ∧ (e.s = 1 → lookBack (ev (t c)) e.o.op (v c) e.k (sn c) = true)) ∨
    (wantA (t c) e.o.guard = some false ∧ v c = undefA ∧ h (c + 1) = h c ∧ x (c + 1) = x c) := R.tr.step c e.s e.k e.o (by simp [he])

/-- What an operation that is not of sort 3 does to the heap. -/
theorem Reg.no3 (R : Reg P gs cf yf N ops E t h x v sn) {c : Nat} {e : Ent} (he : E[c]? = some e) (h3 : e.s ≠ 3) :
    ((∀ id k, ¬ AlAt E t h x c id k) ∧ h (c + 1) = h c ∧ x (c + 1) = x c) ∨
    ∃ l, AlAt E t h x c (x c) (.cells false l) ∧ h (c + 1) = PT.put (x c) (some (.cells false l)) (h c) ∧ x (c + 1) = (x c).succ ∧ ∀ id k, AlAt E t h x c id k → id = x c ∧ k = .cells false l := by
  rcases R.trace he with ⟨hw, hop, _⟩ | ⟨hw, _, e1, e2⟩
  · have hs := (R.ent c e he).2.2
    rcases sort_cases e.o.op with q | q | q | q
    · obtain ⟨e1, e2, _⟩ := opA_sort0 q hop
      exact .inl ⟨(fun id k ⟨e', _, a1, a2, _⟩ => by rw [he] at a1; cases a1; omega), e1, e2⟩
    · obtain ⟨e1, e2, _⟩ := opA_sort1 q hop
      exact .inl ⟨(fun id k ⟨e', _, a1, a2, _⟩ => by rw [he] at a1; cases a1; omega), e1, e2⟩
    · obtain ⟨l, e1, e2, _⟩ := opA_sort2 q hop
      refine .inr ⟨l, ⟨e, l, he, by omega, hw, rfl, rfl, e1, e2⟩, e1, e2, ?_⟩
      rintro id k ⟨e', l', a1, a2, a3, rfl, rfl, a4, a5⟩
      rw [e1] at a4
      have := congrArg (PT.get (x c)) a4
      rw [PT.get_put_same, PT.get_put_same] at this
      exact ⟨rfl, by simpa using this.symm⟩
    · omega
  · exact .inl ⟨(fun id k ⟨e', _, a1, a2, a3, _⟩ => by rw [he] at a1; cases a1; rw [hw] at a3; cases a3), e1, e2⟩

theorem AlAt.lt {c : Nat} {id : Pos} {k : Blk} (ha : AlAt E t h x c id k) : c < E.length ∧ id = x c ∧ (x (c + 1)).toNat = (x c).toNat + 1 := by
  obtain ⟨e, l, a1, _, _, rfl, _, _, a5⟩ := ha
  exact ⟨(List.getElem?_eq_some_iff.1 a1).1, rfl, by rw [a5, Pos.toNat_succ]⟩

/-- Names of new blocks differ from place to place. -/
theorem Reg.alne (R : Reg P gs cf yf N ops E t h x v sn) {c d : Nat} {i j : Pos} {k l : Blk} (ha : AlAt E t h x c i k) (hb : AlAt E t h x d j l) (hcd : c ≠ d) : i ≠ j := by
  obtain ⟨a1, rfl, a3⟩ := ha.lt
  obtain ⟨b1, rfl, b3⟩ := hb.lt
  intro q
  have q := congrArg Pos.toNat q
  rcases Nat.lt_or_ge c d with hl | hl
  · have := R.le (c := c + 1) (d := d) (by omega) (by omega); omega
  · have := R.le (c := d + 1) (d := c) (by omega) (by omega); omega

/-- The states' heaps where no operation of sort 3 lies between. -/
theorem Reg.range (R : Reg P gs cf yf N ops E t h x v sn) {g : Nat} (hout : ∀ id k, PT.get id (h g) = some k → ¬ ((x g).toNat ≤ id.toNat ∧ id.toNat < (x E.length).toNat)) :
    ∀ d, g ≤ d → d ≤ E.length → (∀ (c : Nat) (e : Ent), g ≤ c → c < d → E[c]? = some e → e.s ≠ 3) → ∀ id k, PT.get id (h d) = some k ↔ (PT.get id (h g) = some k ∨ ∃ c, g ≤ c ∧ c < d ∧ AlAt E t h x c id k)
  | 0, hg, _, _ => fun id k => by
    have : g = 0 := by omega
    subst this
    exact ⟨.inl, fun q => by rcases q with q | ⟨c, _, hc, _⟩; exact q; omega⟩
  | d + 1, hg, hd, hno => fun id k => by
    by_cases hgd : g = d + 1
    · subst hgd
      exact ⟨.inl, fun q => by rcases q with q | ⟨c, h1, h2, _⟩; exact q; omega⟩
    · have ih := R.range hout d (by omega) (by omega) (fun c e h1 h2 => hno c e h1 (by omega)) id k
      obtain ⟨e, he⟩ : ∃ e, E[d]? = some e := ⟨E[d], List.getElem?_eq_getElem (by omega)⟩
      rcases R.no3 he (hno d e (by omega) (by omega) he) with ⟨n1, n2, _⟩ | ⟨l, a1, a2, a3, a4⟩
      · rw [n2, ih]
        refine ⟨fun q => ?_, fun q => ?_⟩
        · rcases q with q | ⟨c, h1, h2, h3⟩
          · exact .inl q
          · exact .inr ⟨c, h1, by omega, h3⟩
        · rcases q with q | ⟨c, h1, h2, h3⟩
          · exact .inl q
          · by_cases hc : c = d
            · subst hc; exact absurd h3 (n1 id k)
            · exact .inr ⟨c, h1, by omega, h3⟩
      · obtain ⟨_, _, hx⟩ := a1.lt
        have lo := R.le (c := g) (d := d) (by omega) (by omega)
        have hi := R.le (c := d + 1) (d := E.length) (by omega) (Nat.le_refl _)
        rw [a2]
        by_cases hid : id = x d
        · subst hid
          rw [PT.get_put_same]
          refine ⟨fun q => .inr ⟨d, by omega, by omega, by cases q; exact a1⟩, fun q => ?_⟩
          rcases q with q | ⟨c, h1, h2, h3⟩
          · exact absurd ⟨lo, by omega⟩ (hout _ _ q)
          · by_cases hc : c = d
            · subst hc; rw [(a4 _ _ h3).2]
            · exact absurd rfl (R.alne h3 a1 hc)
        · rw [PT.get_put_other _ _ _ _ hid, ih]
          refine ⟨fun q => ?_, fun q => ?_⟩
          · rcases q with q | ⟨c, h1, h2, h3⟩
            · exact .inl q
            · exact .inr ⟨c, h1, by omega, h3⟩
          · rcases q with q | ⟨c, h1, h2, h3⟩
            · exact .inl q
            · by_cases hc : c = d
              · subst hc; exact absurd (a4 _ _ h3).1 hid
              · exact .inr ⟨c, h1, by omega, h3⟩

/-- A heap, and the new blocks of some places. -/
theorem Reg.grown (R : Reg P gs cf yf N ops E t h x v sn) {g : Nat} (q : Nat → Bool) (hout : ∀ id k, PT.get id (h g) = some k → ¬ ((x g).toNat ≤ id.toNat ∧ id.toNat < (x E.length).toNat)) :
    ∀ d, d ≤ E.length → ∃ H : AHeap, ∀ id k, PT.get id H = some k ↔ (PT.get id (h g) = some k ∨ ∃ c, g ≤ c ∧ c < d ∧ q c = true ∧ AlAt E t h x c id k)
  | 0, _ => ⟨h g, fun id k => ⟨.inl, fun q => by rcases q with q | ⟨c, _, hc, _⟩; exact q; omega⟩⟩
  | d + 1, hd => by
    obtain ⟨H, hH⟩ := R.grown q hout d (by omega)
    by_cases hw : g ≤ d ∧ q d = true ∧ ∃ l, AlAt E t h x d (x d) (.cells false l) ∧ ∀ id k, AlAt E t h x d id k → id = x d ∧ k = .cells false l
    · obtain ⟨w1, w2, l, a1, a4⟩ := hw
      obtain ⟨_, _, hx⟩ := a1.lt
      have lo := R.le (c := g) (d := d) (by omega) (by omega)
      have hi := R.le (c := d + 1) (d := E.length) (by omega) (Nat.le_refl _)
      refine ⟨PT.put (x d) (some (.cells false l)) H, fun id k => ?_⟩
      by_cases hid : id = x d
      · subst hid
        rw [PT.get_put_same]
        refine ⟨fun e => .inr ⟨d, w1, by omega, w2, by cases e; exact a1⟩, fun e => ?_⟩
        rcases e with e | ⟨c, h1, h2, h3, h4⟩
        · exact absurd ⟨lo, by omega⟩ (hout _ _ e)
        · by_cases hc : c = d
          · subst hc; rw [(a4 _ _ h4).2]
          · exact absurd rfl (R.alne h4 a1 hc)
      · rw [PT.get_put_other _ _ _ _ hid, hH]
        refine ⟨fun e => ?_, fun e => ?_⟩
        · rcases e with e | ⟨c, h1, h2, h3⟩
          · exact .inl e
          · exact .inr ⟨c, h1, by omega, h3⟩
        · rcases e with e | ⟨c, h1, h2, h3, h4⟩
          · exact .inl e
          · by_cases hc : c = d
            · subst hc; exact absurd (a4 _ _ h4).1 hid
            · exact .inr ⟨c, h1, by omega, h3, h4⟩
    · refine ⟨H, fun id k => ?_⟩
      rw [hH]
      refine ⟨fun e => ?_, fun e => ?_⟩
      · rcases e with e | ⟨c, h1, h2, h3⟩
        · exact .inl e
        · exact .inr ⟨c, h1, by omega, h3⟩
      · rcases e with e | ⟨c, h1, h2, h3, h4⟩
        · exact .inl e
        · by_cases hc : c = d
          · subst hc
            have h40 := h4
            obtain ⟨e, l, b1, b2, b3, rfl, rfl, b6, b7⟩ := h4
            rcases R.no3 b1 (by omega) with ⟨n1, _, _⟩ | ⟨l', a1, a2, a3, a4⟩
            · exact absurd h40 (n1 _ _)
            · exact absurd ⟨h1, h3, l', a1, a4⟩ hw
          · exact .inr ⟨c, h1, by omega, h3, h4⟩
end
end Go.Abs
