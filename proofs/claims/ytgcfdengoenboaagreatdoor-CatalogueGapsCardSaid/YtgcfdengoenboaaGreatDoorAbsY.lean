/- The abstract interpreter, part Y: regions whose order is open: the heap on the way. -/
import Derived.Test.YtgcfdengoenboaaGreatDoorAbsS
import Derived.OrdersIn
namespace Go.Abs

/-- A region's chosen order, and its states. -/
structure Reg (P : Program) (gs : List Nat) (cf : CallR) (yf : YieldR) (N : Nat) (ops : Array Oper) (E : List Ent) (t : Nat → PT AV) (h : Nat → AHeap) (x : Nat → Pos) (v : Nat → AV) (sn : Nat → List AHeap) : Prop where
  tr : Tr cf yf (E.map fun e => (e.s, e.k, e.o)) t h x v sn
  ent : ∀ (c : Nat) (e : Ent), E[c]? = some e → (∃ o, ops[e.i]? = some o ∧ OperOK P gs N ops o e.o) ∧ e.m = (masks ops.toList []).getD e.i 0 ∧ e.s = e.o.op.sort
  all : okAll E [] [] = true
  cov : ∀ i, i < ops.size → ∃ (c : Nat) (e : Ent), E[c]? = some e ∧ e.i = i
  edges : ∀ i o, ops[i]? = some o → ∀ e ∈ o.after, Region.binds .any e = true → e.on < i
  sn0 : sn 0 = []
  mono : ∀ c, c < E.length → (x c).toNat ≤ (x (c + 1)).toNat

/-- A new block is made at this place. -/
def AlAt (E : List Ent) (t : Nat → PT AV) (h : Nat → AHeap) (x : Nat → Pos) (c : Nat) (id : Pos) (k : Blk) : Prop :=
  ∃ (e : Ent) (l : List AV), E[c]? = some e ∧ e.s = 2 ∧ wantA (t c) e.o.guard = some true ∧ id = x c ∧ k = .cells false l ∧ h (c + 1) = PT.put (x c) (some (.cells false l)) (h c) ∧ x (c + 1) = (x c).succ

section
variable {P : Program} {gs : List Nat} {cf : CallR} {yf : YieldR} {N : Nat} {ops : Array Oper} {E : List Ent} {t : Nat → PT AV} {h : Nat → AHeap} {x : Nat → Pos} {v : Nat → AV} {sn : Nat → List AHeap}

theorem Reg.le (R : Reg P gs cf yf N ops E t h x v sn) : ∀ {c d : Nat}, c ≤ d → d ≤ E.length → (x c).toNat ≤ (x d).toNat
  | c, 0, hc, _ => by have : c = 0 := by omega
                      subst this; exact Nat.le_refl _
  | c, d + 1, hc, hd => by
    by_cases hcd : c = d + 1
    · subst hcd; exact Nat.le_refl _
    · exact Nat.le_trans (R.le (c := c) (d := d) (by omega) (by omega)) (R.mono d (by omega))

theorem Reg.pair (R : Reg P gs cf yf N ops E t h x v sn) {c d : Nat} {a b : Ent} (hcd : c < d) (ha : E[c]? = some a) (hb : E[d]? = some b) :
    (hits a.o.dst b.o = true → b.m.testBit a.i = true) ∧ (hits b.o.dst a.o = true → b.m.testBit a.i = true) ∧ (b.s = 3 → b.m.testBit a.i = true) ∧ a.i ≠ b.i := by
  have := (okAll_pair E [] [] R.all).2 c d a b hcd ha hb
  simp only [okPair, Bool.and_eq_true, Bool.not_eq_true'] at this
  obtain ⟨⟨⟨⟨h1, h2⟩, h3⟩, _⟩, h5⟩ := this
  refine ⟨fun q => by rw [if_pos q] at h1; exact h1, fun q => by rw [if_pos q] at h2; exact h2, fun q => by rw [if_pos q] at h3; exact h3, fun q => ?_⟩
  rw [q, Nat.beq_refl] at h5; cases h5

theorem Reg.inj (R : Reg P gs cf yf N ops E t h x v sn) {c d : Nat} {a b : Ent} (ha : E[c]? = some a) (hb : E[d]? = some b) (hi : a.i = b.i) : c = d := by
  rcases Nat.lt_trichotomy c d with q | q | q
  · exact absurd hi (R.pair q ha hb).2.2.2
  · exact q
  · exact absurd hi.symm (R.pair q hb ha).2.2.2

theorem Reg.trace (R : Reg P gs cf yf N ops E t h x v sn) {c : Nat} {e : Ent} (he : E[c]? = some e) :
    (wantA (t c) e.o.guard = some true ∧ opA cf yf (ev (t c)) (h c) (x c) e.o.op = some (v c, h (c + 1), x (c + 1)) ∧ (e.s = 1 → lookBack (ev (t c)) e.o.op (v c) e.k (sn c) = true)) ∨
    (wantA (t c) e.o.guard = some false ∧ v c = undefA ∧ h (c + 1) = h c ∧ x (c + 1) = x c) := R.tr.step c e.s e.k e.o (by simp [he])

/-- What an operation that is not of sort 3 does to the heap. -/
theorem Reg.no3 (R : Reg P gs cf yf N ops E t h x v sn) {c : Nat} {e : Ent} (he : E[c]? = some e) (h3 : e.s ≠ 3) :
    ((∀ id k, ¬ AlAt E t h x c id k) ∧ h (c + 1) = h c ∧ x (c + 1) = x c) ∨
    ∃ l, AlAt E t h x c (x c) (.cells false l) ∧ h (c + 1) = PT.put (x c) (some (.cells false l)) (h c) ∧ x (c + 1) = (x c).succ ∧ ∀ id k, AlAt E t h x c id k → id = x c ∧ k = .cells false l := by
  rcases R.trace he with ⟨hw, hop, _⟩ | ⟨hw, _, e1, e2⟩
  · have hs := (R.ent c e he).2.2
    rcases sort_cases e.o.op with q | q | q | q
    · obtain ⟨e1, e2, _⟩ := opA_sort0 q hop
      exact .inl ⟨(fun id k ⟨e', _, a1, a2, _⟩ => by rw [he] at a1; cases a1; omega), e1, e2⟩
    · obtain ⟨e1, e2, _⟩ := opA_sort1 q hop
      exact .inl ⟨(fun id k ⟨e', _, a1, a2, _⟩ => by rw [he] at a1; cases a1; omega), e1, e2⟩
    · obtain ⟨l, e1, e2, _⟩ := opA_sort2 q hop
      refine .inr ⟨l, ⟨e, l, he, by omega, hw, rfl, rfl, e1, e2⟩, e1, e2, ?_⟩
      rintro id k ⟨e', l', a1, a2, a3, rfl, rfl, a4, a5⟩
      rw [e1] at a4
      have := congrArg (PT.get (x c)) a4
      rw [PT.get_put_same, PT.get_put_same] at this
      exact ⟨rfl, by simpa using this.symm⟩
    · omega
  · exact .inl ⟨(fun id k ⟨e', _, a1, a2, a3, _⟩ => by rw [he] at a1; cases a1; rw [hw] at a3; cases a3), e1, e2⟩

theorem AlAt.lt {c : Nat} {id : Pos} {k : Blk} (ha : AlAt E t h x c id k) : c < E.length ∧ id = x c ∧ (x (c + 1)).toNat = (x c).toNat + 1 := by
  obtain ⟨e, l, a1, _, _, rfl, _, _, a5⟩ := ha
  exact ⟨(List.getElem?_eq_some_iff.1 a1).1, rfl, by rw [a5, Pos.toNat_succ]⟩

/-- Names of new blocks differ from place to place. -/
theorem Reg.alne (R : Reg P gs cf yf N ops E t h x v sn) {c d : Nat} {i j : Pos} {k l : Blk} (ha : AlAt E t h x c i k) (hb : AlAt E t h x d j l) (hcd : c ≠ d) : i ≠ j := by
  obtain ⟨a1, rfl, a3⟩ := ha.lt
  obtain ⟨b1, rfl, b3⟩ := hb.lt
  intro q
  have q := congrArg Pos.toNat q
  rcases Nat.lt_or_ge c d with hl | hl
  · have := R.le (c := c + 1) (d := d) (by omega) (by omega); omega
  · have := R.le (c := d + 1) (d := c) (by omega) (by omega); omega

/-- The states' heaps where no operation of sort 3 lies between. -/
theorem Reg.range (R : Reg P gs cf yf N ops E t h x v sn) {g : Nat} (hout : ∀ id k, PT.get id (h g) = some k → ¬ ((x g).toNat ≤ id.toNat ∧ id.toNat < (x E.length).toNat)) :
    ∀ d, g ≤ d → d ≤ E.length → (∀ (c : Nat) (e : Ent), g ≤ c → c < d → E[c]? = some e → e.s ≠ 3) → ∀ id k, PT.get id (h d) = some k ↔ (PT.get id (h g) = some k ∨ ∃ c, g ≤ c ∧ c < d ∧ AlAt E t h x c id k)
  | 0, hg, _, _ => fun id k => by
    have : g = 0 := by omega
    subst this
    exact ⟨.inl, fun q => by rcases q with q | ⟨c, _, hc, _⟩; exact q; omega⟩
  | d + 1, hg, hd, hno => fun id k => by
    by_cases hgd : g = d + 1
    · subst hgd
      exact ⟨.inl, fun q => by rcases q with q | ⟨c, h1, h2, _⟩; exact q; omega⟩
    · have ih := R.range hout d (by omega) (by omega) (fun c e h1 h2 => hno c e h1 (by omega)) id k
      obtain ⟨e, he⟩ : ∃ e, E[d]? = some e := ⟨E[d], List.getElem?_eq_getElem (by omega)⟩
      rcases R.no3 he (hno d e (by omega) (by omega) he) with ⟨n1, n2, _⟩ | ⟨l, a1, a2, a3, a4⟩
      · rw [n2, ih]
        refine ⟨fun q => ?_, fun q => ?_⟩
        · rcases q with q | ⟨c, h1, h2, h3⟩
          · exact .inl q
          · exact .inr ⟨c, h1, by omega, h3⟩
        · rcases q with q | ⟨c, h1, h2, h3⟩
          · exact .inl q
          · by_cases hc : c = d
            · subst hc; exact absurd h3 (n1 id k)
            · exact .inr ⟨c, h1, by omega, h3⟩
      · obtain ⟨_, _, hx⟩ := a1.lt
        have lo := R.le (c := g) (d := d) (by omega) (by omega)
        have hi := R.le (c := d + 1) (d := E.length) (by omega) (Nat.le_refl _)
        rw [a2]
        by_cases hid : id = x d
        · subst hid
          rw [PT.get_put_same]
          refine ⟨fun q => .inr ⟨d, by omega, by omega, by cases q; exact a1⟩, fun q => ?_⟩
          rcases q with q | ⟨c, h1, h2, h3⟩
          · exact absurd ⟨lo, by omega⟩ (hout _ _ q)
          · by_cases hc : c = d
            · subst hc; rw [(a4 _ _ h3).2]
            · exact absurd rfl (R.alne h3 a1 hc)
        · rw [PT.get_put_other _ _ _ _ hid, ih]
          refine ⟨fun q => ?_, fun q => ?_⟩
          · rcases q with q | ⟨c, h1, h2, h3⟩
            · exact .inl q
            · exact .inr ⟨c, h1, by omega, h3⟩
          · rcases q with q | ⟨c, h1, h2, h3⟩
            · exact .inl q
            · by_cases hc : c = d
              · subst hc; exact absurd (a4 _ _ h3).1 hid
              · exact .inr ⟨c, h1, by omega, h3⟩

/-- A heap, and the new blocks of some places. -/
theorem Reg.grown (R : Reg P gs cf yf N ops E t h x v sn) {g : Nat} (q : Nat → Bool) (hout : ∀ id k, PT.get id (h g) = some k → ¬ ((x g).toNat ≤ id.toNat ∧ id.toNat < (x E.length).toNat)) :
    ∀ d, d ≤ E.length → ∃ H : AHeap, ∀ id k, PT.get id H = some k ↔ (PT.get id (h g) = some k ∨ ∃ c, g ≤ c ∧ c < d ∧ q c = true ∧ AlAt E t h x c id k)
  | 0, _ => ⟨h g, fun id k => ⟨.inl, fun q => by rcases q with q | ⟨c, _, hc, _⟩; exact q; omega⟩⟩
  | d + 1, hd => by
    obtain ⟨H, hH⟩ := R.grown q hout d (by omega)
    by_cases hw : g ≤ d ∧ q d = true ∧ ∃ l, AlAt E t h x d (x d) (.cells false l) ∧ ∀ id k, AlAt E t h x d id k → id = x d ∧ k = .cells false l
    · obtain ⟨w1, w2, l, a1, a4⟩ := hw
      obtain ⟨_, _, hx⟩ := a1.lt
      have lo := R.le (c := g) (d := d) (by omega) (by omega)
      have hi := R.le (c := d + 1) (d := E.length) (by omega) (Nat.le_refl _)
      refine ⟨PT.put (x d) (some (.cells false l)) H, fun id k => ?_⟩
      by_cases hid : id = x d
      · subst hid
        rw [PT.get_put_same]
        refine ⟨fun e => .inr ⟨d, w1, by omega, w2, by cases e; exact a1⟩, fun e => ?_⟩
        rcases e with e | ⟨c, h1, h2, h3, h4⟩
        · exact absurd ⟨lo, by omega⟩ (hout _ _ e)
        · by_cases hc : c = d
          · subst hc; rw [(a4 _ _ h4).2]
          · exact absurd rfl (R.alne h4 a1 hc)
      · rw [PT.get_put_other _ _ _ _ hid, hH]
        refine ⟨fun e => ?_, fun e => ?_⟩
        · rcases e with e | ⟨c, h1, h2, h3⟩
          · exact .inl e
          · exact .inr ⟨c, h1, by omega, h3⟩
        · rcases e with e | ⟨c, h1, h2, h3, h4⟩
          · exact .inl e
          · by_cases hc : c = d
            · subst hc; exact absurd (a4 _ _ h4).1 hid
            · exact .inr ⟨c, h1, by omega, h3, h4⟩
    · refine ⟨H, fun id k => ?_⟩
      rw [hH]
      refine ⟨fun e => ?_, fun e => ?_⟩
      · rcases e with e | ⟨c, h1, h2, h3⟩
        · exact .inl e
        · exact .inr ⟨c, h1, by omega, h3⟩
      · rcases e with e | ⟨c, h1, h2, h3, h4⟩
        · exact .inl e
        · by_cases hc : c = d
          · subst hc
            have h40 := h4
            obtain ⟨e, l, b1, b2, b3, rfl, rfl, b6, b7⟩ := h4
            rcases R.no3 b1 (by omega) with ⟨n1, _, _⟩ | ⟨l', a1, a2, a3, a4⟩
            · exact absurd h40 (n1 _ _)
            · exact absurd ⟨h1, h3, l', a1, a4⟩ hw
          · exact .inr ⟨c, h1, by omega, h3, h4⟩
end
end Go.Abs

namespace Go.Abs

/-- Is the operation at this place done? -/
def dn (E : List Ent) (listed : Array Bool) (c : Nat) : Bool := match E[c]? with
  | some e => listed.getD e.i false
  | none => false

/-- On the way. -/
structure Inv (B : Base) (ops : Array Oper) (E : List Ent) (t : Nat → PT AV) (h : Nat → AHeap) (x : Nat → Pos) (v : Nat → AV) (ρ0 : Env) (w0 : World) (a0 : Act) (listed : Array Bool) (a : Act) (w : World) (ρ : Env) (H : AHeap) (g : Nat) : Prop where
  size : listed.size = ops.size
  closed : Closed ops listed
  temps : RelA ρ (fT E v (t 0) (dn E listed) E.length) a.tmps
  tsize : a.tmps.size = a0.tmps.size
  defers : a.defers = a0.defers
  sim : Sim B ρ H w
  step : Step ρ0 (h 0) (x 0) w0 ρ H (x E.length) w
  hg : g ≤ E.length
  below : ∀ c, c < g → dn E listed c = true
  g3 : ∀ c e, E[c]? = some e → e.s = 3 → dn E listed c = true → c < g
  heap : ∀ id k, PT.get id H = some k ↔ (PT.get id (h g) = some k ∨ ∃ c, g ≤ c ∧ c < E.length ∧ dn E listed c = true ∧ AlAt E t h x c id k)
  names : ∀ id, ρ0 id = none → ρ id ≠ none → ∃ c, c < E.length ∧ dn E listed c = true ∧ (x c).toNat ≤ id.toNat ∧ id.toNat < (x (c + 1)).toNat
  out : ∀ id k, PT.get id (h g) = some k → ¬ ((x g).toNat ≤ id.toNat ∧ id.toNat < (x E.length).toNat)

section
variable {P : Program} {gs : List Nat} {B : Base} {cf : CallR} {yf : YieldR} {N : Nat} {ops : Array Oper} {E : List Ent} {t : Nat → PT AV} {h : Nat → AHeap} {x : Nat → Pos} {v : Nat → AV} {sn : Nat → List AHeap}
variable {ρ0 : Env} {w0 : World} {a0 : Act} {listed : Array Bool} {a : Act} {w : World} {ρ : Env} {H : AHeap} {g : Nat}

theorem listed_in (hsz : listed.size = ops.size) : ∀ i, listed.getD i false = true → ∃ o, ops[i]? = some o := fun i hi => by
  by_cases hlt : i < ops.size
  · exact ⟨ops[i], Array.getElem?_eq_getElem hlt⟩
  · rw [Array.getD_eq_getD_getElem?, Array.getElem?_eq_none (by omega)] at hi; cases hi

theorem getD_of_true {i : Nat} (hi : listed.getD i true = false) : listed.getD i false = false ∧ i < listed.size := by
  rw [Array.getD_eq_getD_getElem?] at hi ⊢
  by_cases hlt : i < listed.size
  · rw [Array.getElem?_eq_getElem hlt] at hi ⊢
    exact ⟨hi, hlt⟩
  · rw [Array.getElem?_eq_none (by omega)] at hi; cases hi

theorem dn_set (R : Reg P gs cf yf N ops E t h x v sn) {c : Nat} {e : Ent} (he : E[c]? = some e) (hlt : e.i < listed.size) (d : Nat) : dn E (listed.setIfInBounds e.i true) d = if d = c then true else dn E listed d := by
  unfold dn
  cases hd : E[d]? with
  | none =>
    by_cases hdc : d = c
    · subst hdc; rw [he] at hd; cases hd
    · rw [if_neg hdc]
  | some e' =>
    simp only
    by_cases hdc : d = c
    · subst hdc
      rw [he] at hd; cases hd
      rw [if_pos rfl, Array.getD_eq_getD_getElem?, Array.getElem?_setIfInBounds_self_of_lt hlt]; rfl
    · rw [if_neg hdc]
      have hne : e.i ≠ e'.i := fun q => hdc (R.inj hd he q.symm)
      rw [Array.getD_eq_getD_getElem?, Array.getElem?_setIfInBounds_ne hne, ← Array.getD_eq_getD_getElem?]

/-- What an operation that may come now finds. -/
structure Now (E : List Ent) (listed : Array Bool) (c : Nat) (e : Ent) : Prop where
  at_ : E[c]? = some e
  undone : dn E listed c = false
  lt : e.i < listed.size
  anc : ∀ j, e.m.testBit j = true → listed.getD j false = true

theorem dn_of {d : Nat} {e : Ent} (he : E[d]? = some e) : dn E listed d = listed.getD e.i false := by simp only [dn, he]

theorem Inv.now (R : Reg P gs cf yf N ops E t h x v sn) (I : Inv B ops E t h x v ρ0 w0 a0 listed a w ρ H g) {i : Nat} (hi : i ∈ Region.ready .any ops listed) : ∃ c e o, Now E listed c e ∧ e.i = i ∧ ops[i]? = some o ∧ OperOK P gs N ops o e.o := by
  obtain ⟨hu, o, ho, hall⟩ := mem_ready.1 hi
  obtain ⟨u1, u2⟩ := getD_of_true hu
  obtain ⟨c, e, he, rfl⟩ := R.cov i (by rw [← I.size]; exact u2)
  obtain ⟨⟨o', ho', hok⟩, hm, _⟩ := R.ent c e he
  rw [ho] at ho'; cases ho'
  refine ⟨c, e, o, ⟨he, by rw [dn_of he]; exact u1, u2, fun j hj => ?_⟩, rfl, ho, hok⟩
  rw [hm] at hj
  exact anc_ready I.closed (listed_in I.size) hi hj

/-- The temporaries that it names are as in the chosen order. -/
theorem Inv.same_temps (R : Reg P gs cf yf N ops E t h x v sn) (I : Inv B ops E t h x v ρ0 w0 a0 listed a w ρ H g) {c : Nat} {e : Ent} (hn : Now E listed c e) {p : Pos} (hp : p ∈ e.o.tms) :
    PT.get p (fT E v (t 0) (dn E listed) E.length) = PT.get p (t c) := by
  have hlt : c < E.length := (List.getElem?_eq_some_iff.1 hn.at_).1
  have hq : fT E v (t 0) (fun d => decide (d < c)) E.length = t c := by
    rw [fT_stay (fun d => decide (d < c)) c (fun d hd => by simp; omega) E.length (by omega), fT_upto R.tr _ c (by omega) (fun d hd => by simpa using hd)]
  rw [← hq]
  refine fT_congr _ fun d e' hd he' hdst => ?_
  have hit : ∀ {o : AOper}, p ∈ o.tms → hits e'.o.dst o = true := fun ho => by
    rw [hdst]
    simp only [hits, List.any_eq_true]
    exact ⟨p, ho, samePos_refl p⟩
  rcases Nat.lt_trichotomy d c with q | q | q
  · have hb := (R.pair q he' hn.at_).1 (hit hp)
    rw [dn_of he', hn.anc _ hb]
    simp [q]
  · subst q; rw [hn.undone]; simp
  · have hb := (R.pair q hn.at_ he').2.1 (hit hp)
    have : dn E listed d = false := by
      cases hdd : dn E listed d with
      | false => rfl
      | true =>
        rw [dn_of he'] at hdd
        rw [(R.ent d e' he').2.1] at hb
        have := anc_done I.closed (listed_in I.size) _ _ hdd hb
        rw [← dn_of hn.at_, hn.undone] at this; cases this
    rw [this]
    simp; omega

theorem Inv.g_le (I : Inv B ops E t h x v ρ0 w0 a0 listed a w ρ H g) {c : Nat} {e : Ent} (hn : Now E listed c e) : g ≤ c := by
  rcases Nat.lt_or_ge c g with q | q
  · have := I.below c q; rw [hn.undone] at this; cases this
  · exact q

/-- The next state, but for the heap. -/
theorem Inv.next (R : Reg P gs cf yf N ops E t h x v sn) (I : Inv B ops E t h x v ρ0 w0 a0 listed a w ρ H g) {c : Nat} {e : Ent} {o : Oper} (hn : Now E listed c e) (hok : OperOK P gs N ops o e.o) (hr : e.i ∈ Region.ready .any ops listed)
    (hN : N ≤ a0.tmps.size) {ρ' : Env} {w' : World} {H' : AHeap} {v' : Value} {g' : Nat} (hS : Sim B ρ' H' w') (st : Step ρ H (x c) w ρ' H' (x (c + 1)) w') (hv : Rel ρ' (v c) v') (hg' : g' ≤ E.length)
    (hbelow : ∀ d, d < g' → d = c ∨ dn E listed d = true) (h3 : ∀ d e', E[d]? = some e' → e'.s = 3 → d = c ∨ dn E listed d = true → d < g')
    (hheap : ∀ id k, PT.get id H' = some k ↔ (PT.get id (h g') = some k ∨ ∃ d, g' ≤ d ∧ d < E.length ∧ (d = c ∨ dn E listed d = true) ∧ AlAt E t h x d id k))
    (hout : ∀ id k, PT.get id (h g') = some k → ¬ ((x g').toNat ≤ id.toNat ∧ id.toNat < (x E.length).toNat)) :
    Inv B ops E t h x v ρ0 w0 a0 (listed.setIfInBounds e.i true) (a.put o.dst v') w' ρ' H' g' := by
  have hlt : c < E.length := (List.getElem?_eq_some_iff.1 hn.at_).1
  have hd : ∀ d, dn E (listed.setIfInBounds e.i true) d = if d = c then true else dn E listed d := dn_set R hn.at_ hn.lt
  have hd' : ∀ d, dn E (listed.setIfInBounds e.i true) d = true ↔ (d = c ∨ dn E listed d = true) := fun d => by
    rw [hd]
    by_cases q : d = c
    · simp [q]
    · simp [q]
  have l1 := R.le (c := 0) (d := c) (by omega) (by omega)
  have l2 := R.le (c := c + 1) (d := E.length) (by omega) (Nat.le_refl _)
  have hT := I.temps.mono st.ext
  have hNa : N ≤ a.tmps.size := by rw [I.tsize]; exact hN
  obtain ⟨p1, p2, p3⟩ := put_rel hok hT hv hNa
  refine ⟨by simp [I.size], ?_, ?_, p2.trans I.tsize, p3.trans I.defers, hS, I.step.join st l1 l2, hg', fun d q => (hd' d).2 (hbelow d q), fun d e' he' q3 q => h3 d e' he' q3 ((hd' d).1 q), fun id k => ?_, fun id h0 h1 => ?_, hout⟩
  · intro i o' hi ho' ed hed hb
    obtain ⟨_, o'', ho'', hall⟩ := mem_ready.1 hr
    by_cases hie : i = e.i
    · subst hie
      rw [ho'] at ho''; cases ho''
      exact getD_set_true (hall ed hed hb)
    · have hi' : listed.getD i false = true := by
        rw [Array.getD_eq_getD_getElem?, Array.getElem?_setIfInBounds_ne (Ne.symm hie), ← Array.getD_eq_getD_getElem?] at hi
        exact hi
      exact getD_set_true (I.closed i o' hi' ho' ed hed hb)
  · refine RelA.congr (fun p => ?_) p1
    refine (fT_put hn.at_ hn.undone (by rw [hd, if_pos rfl]) (fun d q => by rw [hd, if_neg q]) p (fun d e' hcd he' h1 h2 => ?_) E.length hlt).symm
    -- a later one that writes the same comes surely behind
    cases hdd : dn E listed d with
    | false => rfl
    | true =>
      have hit : hits e'.o.dst e.o = true := by
        rw [h2]
        simp only [hits, List.any_eq_true]
        exact ⟨p, by simp [AOper.tms, h1], samePos_refl p⟩
      have hb := (R.pair hcd hn.at_ he').2.1 hit
      rw [dn_of he'] at hdd
      rw [(R.ent d e' he').2.1] at hb
      have := anc_done I.closed (listed_in I.size) _ _ hdd hb
      rw [← dn_of hn.at_, hn.undone] at this; cases this
  · rw [hheap]
    refine ⟨fun q => ?_, fun q => ?_⟩
    · rcases q with q | ⟨d, q1, q2, q3, q4⟩
      · exact .inl q
      · exact .inr ⟨d, q1, q2, (hd' d).2 q3, q4⟩
    · rcases q with q | ⟨d, q1, q2, q3, q4⟩
      · exact .inl q
      · exact .inr ⟨d, q1, q2, (hd' d).1 q3, q4⟩
  · by_cases hρ : ρ id = none
    · have := st.fresh id hρ h1
      exact ⟨c, hlt, (hd' c).2 (.inl rfl), this.1, this.2⟩
    · obtain ⟨d, d1, d2, d3⟩ := I.names id h0 hρ
      exact ⟨d, d1, (hd' d).2 (.inr d2), d3⟩

/-- Names that are still to come. -/
theorem Inv.fresh (R : Reg P gs cf yf N ops E t h x v sn) (I : Inv B ops E t h x v ρ0 w0 a0 listed a w ρ H g) (hF : Fresh ρ0 (x 0) (x E.length)) {c : Nat} {e : Ent} (hn : Now E listed c e) : Fresh ρ (x c) (x (c + 1)) := by
  have hlt : c < E.length := (List.getElem?_eq_some_iff.1 hn.at_).1
  intro id h1 h2
  by_cases hρ : ρ id = none
  · exact hρ
  · exfalso
    have l1 := R.le (c := 0) (d := c) (by omega) (by omega)
    have l2 := R.le (c := c + 1) (d := E.length) (by omega) (Nat.le_refl _)
    obtain ⟨d, d1, d2, d3, d4⟩ := I.names id (hF id (by omega) (by omega)) hρ
    rcases Nat.lt_trichotomy d c with q | q | q
    · have := R.le (c := d + 1) (d := c) (by omega) (by omega); omega
    · subst q; rw [hn.undone] at d2; cases d2
    · have := R.le (c := c + 1) (d := d) (by omega) (by omega); omega
end
end Go.Abs

namespace Go.Abs
section
variable {P : Program} {gs : List Nat} {B : Base} {cf : CallR} {yf : YieldR} {N : Nat} {ops : Array Oper} {E : List Ent} {t : Nat → PT AV} {h : Nat → AHeap} {x : Nat → Pos} {v : Nat → AV} {sn : Nat → List AHeap}
variable {ρ0 : Env} {w0 : World} {a0 : Act} {listed : Array Bool} {a : Act} {w : World} {ρ : Env} {H : AHeap} {g : Nat}

/-- An operation that is not of sort 3 and makes no block. -/
theorem Inv.plain (R : Reg P gs cf yf N ops E t h x v sn) (I : Inv B ops E t h x v ρ0 w0 a0 listed a w ρ H g) {c : Nat} {e : Ent} {o : Oper} (hn : Now E listed c e) (hok : OperOK P gs N ops o e.o) (hr : e.i ∈ Region.ready .any ops listed)
    (hN : N ≤ a0.tmps.size) (h3 : e.s ≠ 3) (hna : ∀ id k, ¬ AlAt E t h x c id k) (hx : x (c + 1) = x c) {v' : Value} (hv : Rel ρ (v c) v') :
    Inv B ops E t h x v ρ0 w0 a0 (listed.setIfInBounds e.i true) (a.put o.dst v') w ρ H g := by
  refine I.next R hn hok hr hN I.sim (by rw [hx]; exact Step.refl _ _ _ _) hv I.hg (fun d hd => .inr (I.below d hd)) (fun d e' he' h3' q => ?_) (fun id k => ?_) I.out
  · rcases q with rfl | q
    · rw [hn.at_] at he'; cases he'; exact absurd h3' h3
    · exact I.g3 d e' he' h3' q
  · rw [I.heap]
    refine ⟨fun q => ?_, fun q => ?_⟩
    · rcases q with q | ⟨d, q1, q2, q3, q4⟩
      · exact .inl q
      · exact .inr ⟨d, q1, q2, .inr q3, q4⟩
    · rcases q with q | ⟨d, q1, q2, q3, q4⟩
      · exact .inl q
      · rcases q3 with rfl | q3
        · exact absurd q4 (hna id k)
        · exact .inr ⟨d, q1, q2, q3, q4⟩

/-- An operation that makes a block. -/
theorem Inv.alloc (R : Reg P gs cf yf N ops E t h x v sn) (I : Inv B ops E t h x v ρ0 w0 a0 listed a w ρ H g) {c : Nat} {e : Ent} {o : Oper} (hn : Now E listed c e) (hok : OperOK P gs N ops o e.o) (hr : e.i ∈ Region.ready .any ops listed)
    (hN : N ≤ a0.tmps.size) (h3 : e.s ≠ 3) {l : List AV} (ha : AlAt E t h x c (x c) (.cells false l)) (hu : ∀ id k, AlAt E t h x c id k → id = x c ∧ k = .cells false l) {ρ' : Env} {w' : World} {v' : Value}
    (hS : Sim B ρ' (PT.put (x c) (some (.cells false l)) H) w') (st : Step ρ H (x c) w ρ' (PT.put (x c) (some (.cells false l)) H) (x (c + 1)) w') (hv : Rel ρ' (v c) v') :
    Inv B ops E t h x v ρ0 w0 a0 (listed.setIfInBounds e.i true) (a.put o.dst v') w' ρ' (PT.put (x c) (some (.cells false l)) H) g := by
  have hlt : c < E.length := (List.getElem?_eq_some_iff.1 hn.at_).1
  have hgc := I.g_le hn
  obtain ⟨_, _, hx⟩ := ha.lt
  have lo := R.le (c := g) (d := c) hgc (by omega)
  have hi := R.le (c := c + 1) (d := E.length) (by omega) (Nat.le_refl _)
  refine I.next R hn hok hr hN hS st hv I.hg (fun d hd => .inr (I.below d hd)) (fun d e' he' h3' q => ?_) (fun id k => ?_) I.out
  · rcases q with rfl | q
    · rw [hn.at_] at he'; cases he'; exact absurd h3' h3
    · exact I.g3 d e' he' h3' q
  · by_cases hid : id = x c
    · subst hid
      rw [PT.get_put_same]
      refine ⟨fun q => .inr ⟨c, hgc, hlt, .inl rfl, by cases q; exact ha⟩, fun q => ?_⟩
      rcases q with q | ⟨d, q1, q2, q3, q4⟩
      · exact absurd ⟨lo, by omega⟩ (I.out _ _ q)
      · by_cases hc : d = c
        · subst hc; rw [(hu _ _ q4).2]
        · exact absurd rfl (R.alne q4 ha hc)
    · rw [PT.get_put_other _ _ _ _ hid, I.heap]
      refine ⟨fun q => ?_, fun q => ?_⟩
      · rcases q with q | ⟨d, q1, q2, q3, q4⟩
        · exact .inl q
        · exact .inr ⟨d, q1, q2, .inr q3, q4⟩
      · rcases q with q | ⟨d, q1, q2, q3, q4⟩
        · exact .inl q
        · rcases q3 with rfl | q3
          · exact absurd (hu _ _ q4).1 hid
          · exact .inr ⟨d, q1, q2, q3, q4⟩

/-- What is done when an operation of sort 3 comes. -/
theorem Inv.all_below (R : Reg P gs cf yf N ops E t h x v sn) (_I : Inv B ops E t h x v ρ0 w0 a0 listed a w ρ H g) {c : Nat} {e : Ent} (hn : Now E listed c e) (h3 : e.s = 3) {d : Nat} (hd : d < c) : dn E listed d = true := by
  have hlt : c < E.length := (List.getElem?_eq_some_iff.1 hn.at_).1
  obtain ⟨e', he'⟩ : ∃ e', E[d]? = some e' := ⟨E[d], List.getElem?_eq_getElem (by omega)⟩
  rw [dn_of he']
  exact hn.anc _ ((R.pair hd he' hn.at_).2.2.1 h3)

theorem Inv.range3 (R : Reg P gs cf yf N ops E t h x v sn) (I : Inv B ops E t h x v ρ0 w0 a0 listed a w ρ H g) {c : Nat} {e : Ent} (hn : Now E listed c e) (h3 : e.s = 3) (id : Pos) (k : Blk) :
    PT.get id (h c) = some k ↔ (PT.get id (h g) = some k ∨ ∃ d, g ≤ d ∧ d < c ∧ AlAt E t h x d id k) := by
  have hlt : c < E.length := (List.getElem?_eq_some_iff.1 hn.at_).1
  refine R.range I.out c (I.g_le hn) (by omega) (fun d e' h1 h2 he' q => ?_) id k
  have := I.g3 d e' he' q (I.all_below R hn h3 h2)
  omega

theorem Inv.sub3 (R : Reg P gs cf yf N ops E t h x v sn) (I : Inv B ops E t h x v ρ0 w0 a0 listed a w ρ H g) {c : Nat} {e : Ent} (hn : Now E listed c e) (h3 : e.s = 3) : Sub (h c) H := by
  have hlt : c < E.length := (List.getElem?_eq_some_iff.1 hn.at_).1
  intro id k q
  rw [I.heap]
  rcases (I.range3 R hn h3 id k).1 q with q | ⟨d, q1, q2, q3⟩
  · exact .inl q
  · exact .inr ⟨d, q1, by omega, I.all_below R hn h3 q2, q3⟩

/-- An operation of sort 3. -/
theorem Inv.three (R : Reg P gs cf yf N ops E t h x v sn) (I : Inv B ops E t h x v ρ0 w0 a0 listed a w ρ H g) {c : Nat} {e : Ent} {o : Oper} (hn : Now E listed c e) (hok : OperOK P gs N ops o e.o) (hr : e.i ∈ Region.ready .any ops listed)
    (hN : N ≤ a0.tmps.size) (h3 : e.s = 3) {ρ' : Env} {w' : World} {v' : Value} (hS : Sim B ρ' (h (c + 1)) w') (st : Step ρ (h c) (x c) w ρ' (h (c + 1)) (x (c + 1)) w') (hv : Rel ρ' (v c) v') :
    ∃ H', Inv B ops E t h x v ρ0 w0 a0 (listed.setIfInBounds e.i true) (a.put o.dst v') w' ρ' H' (c + 1) := by
  have hlt : c < E.length := (List.getElem?_eq_some_iff.1 hn.at_).1
  have hgc := I.g_le hn
  have hsub := I.sub3 R hn h3
  have l1 := R.mono c hlt
  have l2 := R.le (c := c + 1) (d := E.length) (by omega) (Nat.le_refl _)
  have l3 := R.le (c := g) (d := c) hgc (by omega)
  -- no name to come lies in the heap before
  have outc : ∀ id k, PT.get id (h c) = some k → ¬ ((x c).toNat ≤ id.toNat ∧ id.toNat < (x E.length).toNat) := by
    intro id k q
    rcases (I.range3 R hn h3 id k).1 q with q | ⟨d, q1, q2, q3⟩
    · have := I.out id k q; omega
    · obtain ⟨_, rfl, qx⟩ := q3.lt
      have := R.le (c := d + 1) (d := c) (by omega) (by omega)
      omega
  have out1 : ∀ id k, PT.get id (h (c + 1)) = some k → ¬ ((x (c + 1)).toNat ≤ id.toNat ∧ id.toNat < (x E.length).toNat) := by
    intro id k q
    rcases st.dom id k q with ⟨k0, q⟩ | q
    · have := outc id k0 q; omega
    · omega
  obtain ⟨H', hH'⟩ := R.grown (dn E listed) out1 E.length (Nat.le_refl _)
  have hR : Rest H (h c) (h (c + 1)) H' := by
    intro id k q
    rcases (hH' id k).1 q with q | ⟨d, q1, q2, q3, q4⟩
    · exact .inl q
    · refine .inr ⟨?_, (I.heap id k).2 (.inr ⟨d, by omega, q2, q3, q4⟩), ?_⟩
      · cases hg : PT.get id (h c) with
        | none => rfl
        | some k0 =>
          obtain ⟨_, rfl, qx⟩ := q4.lt
          have := outc _ _ hg
          have := R.le (c := c) (d := d) (by omega) (by omega)
          have := R.le (c := d + 1) (d := E.length) (by omega) (Nat.le_refl _)
          omega
      · obtain ⟨_, _, _, _, _, _, rfl, _⟩ := q4
        exact ⟨rfl, rfl⟩
  obtain ⟨s1, s2⟩ := glue I.sim hsub st hS hR
  refine ⟨H', I.next R hn hok hr hN s1 s2 hv (by omega) (fun d hd => ?_) (fun d e' he' h3' q => ?_) (fun id k => ?_) out1⟩
  · by_cases hdc : d = c
    · exact .inl hdc
    · exact .inr (I.all_below R hn h3 (by omega))
  · rcases q with rfl | q
    · omega
    · have := I.g3 d e' he' h3' q; omega
  · rw [hH']
    refine ⟨fun q => ?_, fun q => ?_⟩
    · rcases q with q | ⟨d, q1, q2, q3, q4⟩
      · exact .inl q
      · exact .inr ⟨d, q1, q2, .inr q3, q4⟩
    · rcases q with q | ⟨d, q1, q2, q3, q4⟩
      · exact .inl q
      · rcases q3 with rfl | q3
        · omega
        · exact .inr ⟨d, q1, q2, q3, q4⟩

/-- A load: in the state where it comes it finds what it finds in the chosen order. -/
theorem Inv.load (R : Reg P gs cf yf N ops E t h x v sn) (I : Inv B ops E t h x v ρ0 w0 a0 listed a w ρ H g) (hF : Fresh ρ0 (x 0) (x E.length)) (hG : Glob gs ρ) {c : Nat} {e : Ent} {o : Oper} (hn : Now E listed c e) (hok : OperOK P gs N ops o e.o)
    (h1 : e.s = 1) (hl : ldA (ev (t c)) (h c) e.o.op = some (v c)) (hlb : lookBack (ev (t c)) e.o.op (v c) e.k (sn c) = true) (hT : ∀ p ∈ e.o.op.tms, PT.get p (fT E v (t 0) (dn E listed) E.length) = PT.get p (t c)) :
    ldA (ev (fT E v (t 0) (dn E listed) E.length)) H e.o.op = some (v c) := by
  have hlt : c < E.length := (List.getElem?_eq_some_iff.1 hn.at_).1
  have hgc := I.g_le hn
  -- the first operation of sort 3 that is not done
  have first : ∃ d, g ≤ d ∧ d ≤ c ∧ (∀ d' e', g ≤ d' → d' < d → E[d']? = some e' → e'.s ≠ 3) ∧ (d = c ∨ ∃ e', E[d]? = some e' ∧ e'.s = 3) := by
    have : ∀ m, g + m ≤ c → (∃ d, g ≤ d ∧ d ≤ g + m ∧ (∀ d' e', g ≤ d' → d' < d → E[d']? = some e' → e'.s ≠ 3) ∧ ∃ e', E[d]? = some e' ∧ e'.s = 3) ∨ (∀ d' e', g ≤ d' → d' < g + m → E[d']? = some e' → e'.s ≠ 3) := by
      intro m
      induction m with
      | zero => intro _; exact .inr fun d' _ q1 q2 => by omega
      | succ m ih =>
        intro hm
        rcases ih (by omega) with ⟨d, q1, q2, q3, q4⟩ | hno
        · exact .inl ⟨d, q1, by omega, q3, q4⟩
        · obtain ⟨e', he'⟩ : ∃ e', E[g + m]? = some e' := ⟨E[g + m], List.getElem?_eq_getElem (by omega)⟩
          by_cases h3 : e'.s = 3
          · exact .inl ⟨g + m, by omega, by omega, hno, e', he', h3⟩
          · refine .inr fun d' e2 q1 q2 q3 => ?_
            by_cases hd : d' = g + m
            · subst hd; rw [he'] at q3; cases q3; exact h3
            · exact hno d' e2 q1 (by omega) q3
    rcases this (c - g) (by omega) with ⟨d, q1, q2, q3, q4⟩ | hno
    · exact ⟨d, q1, by omega, q3, .inr q4⟩
    · exact ⟨c, hgc, Nat.le_refl _, fun d' e' q1 q2 => hno d' e' q1 (by omega), .inl rfl⟩
  obtain ⟨d, d1, d2, d3, d4⟩ := first
  have hld : ldA (ev (t c)) (h d) e.o.op = some (v c) := by
    by_cases hdc : d = c
    · subst hdc; exact hl
    · rcases d4 with d4 | ⟨e', he', h3⟩
      · exact absurd d4 hdc
      · obtain ⟨r, r1, r2⟩ := snaps R.tr c (by omega) d e' (by omega) he' h3
        refine lookBack_spec hlb r (h d) ?_ r2
        rcases Nat.lt_or_ge r e.k with q | q
        · exact q
        · exfalso
          have hal := okAll_load E [] [] R.all c e hn.at_ h1
          rw [List.append_nil] at hal
          have hmem : e' ∈ (acc3 E c).drop e.k := List.mem_of_getElem? (i := r - e.k) (by rw [List.getElem?_drop, show e.k + (r - e.k) = r by omega]; exact r1)
          have hb := List.all_eq_true.1 hal e' hmem
          have := I.g3 d e' he' h3 (by rw [dn_of he']; exact hn.anc _ hb)
          omega
  rw [← ldA_congr hT] at hld
  refine ld_mapped (evs_of I.temps hG) hok.op hld fun id k hρ q => ?_
  rw [I.heap]
  rcases (R.range I.out d d1 (by omega) d3 id k).1 q with q | ⟨d', q1, q2, q3⟩
  · exact .inl q
  · refine .inr ⟨d', q1, by omega, ?_, q3⟩
    obtain ⟨_, rfl, qx⟩ := q3.lt
    have l0 := R.le (c := 0) (d := d') (by omega) (by omega)
    have l1 := R.le (c := d' + 1) (d := E.length) (by omega) (Nat.le_refl _)
    obtain ⟨c', c1, c2, c3, c4⟩ := I.names (x d') (hF _ l0 (by omega)) hρ
    rcases Nat.lt_trichotomy c' d' with z | z | z
    · have := R.le (c := c' + 1) (d := d') (by omega) (by omega); omega
    · subst z; exact c2
    · have := R.le (c := d' + 1) (d := c') (by omega) (by omega); omega
end
end Go.Abs

namespace Go.Abs
section
variable {P : Program} {gs : List Nat} {B : Base} {cf : CallR} {yf : YieldR} {N : Nat} {ops : Array Oper} {E : List Ent} {t : Nat → PT AV} {h : Nat → AHeap} {x : Nat → Pos} {v : Nat → AV} {sn : Nat → List AHeap}
variable {ρ0 : Env} {w0 : World} {a0 : Act} {listed : Array Bool} {a : Act} {w : World} {ρ : Env} {H : AHeap} {g : Nat}

theorem Inv.op (hcf : CallsOK P gs B cf) (hyf : YieldsOK P gs B yf) (R : Reg P gs cf yf N ops E t h x v sn) (I : Inv B ops E t h x v ρ0 w0 a0 listed a w ρ H g) (hF : Fresh ρ0 (x 0) (x E.length)) (hG0 : Glob gs ρ0) (hN : N ≤ a0.tmps.size)
    {i : Nat} (hi : i ∈ Region.ready .any ops listed) {n : Nat} {r : Option Nat} {Q : Exit → Act → World → Prop} {K : Act → World → Prop}
    (hK : ∀ ρ' H' g' a' w', Inv B ops E t h x v ρ0 w0 a0 (listed.setIfInBounds i true) a' w' ρ' H' g' → K a' w') : wpOpIn (Wd r) n P ops Q i K a w := by
  obtain ⟨c, e, o, hn, rfl, ho, hok⟩ := I.now R hi
  have hG : Glob gs ρ := hG0.mono I.step.ext
  have hsame : ∀ p ∈ e.o.tms, PT.get p (fT E v (t 0) (dn E listed) E.length) = PT.get p (t c) := fun p hp => I.same_temps R hn hp
  have hTo : ∀ p ∈ e.o.op.tms, PT.get p (fT E v (t 0) (dn E listed) E.length) = PT.get p (t c) := fun p hp => hsame p (by simp [AOper.tms, hp])
  have hwg : wantA (fT E v (t 0) (dn E listed) E.length) e.o.guard = wantA (t c) e.o.guard := wantA_congr fun p want hg => hsame p (by simp [AOper.tms, hg])
  have hs := (R.ent c e hn.at_).2.2
  have hfr := I.fresh R hF hn
  unfold wpOpIn
  rw [ho]
  simp only
  rcases R.trace hn.at_ with ⟨hw, hop, hlb⟩ | ⟨hw, hvu, e1, e2⟩
  · rw [if_pos (want_ok hok I.temps (hwg.trans hw))]
    have hop' : opA cf yf (ev (fT E v (t 0) (dn E listed) E.length)) (h c) (x c) e.o.op = some (v c, h (c + 1), x (c + 1)) := (opA_congr hTo).trans hop
    rcases sort_cases e.o.op with q | q | q | q
    · obtain ⟨_, e2, e3⟩ := opA_sort0 q hop'
      have hna : ∀ id k, ¬ AlAt E t h x c id k := fun id k ⟨e', _, a1, a2, _⟩ => by rw [hn.at_] at a1; cases a1; omega
      have hsd := op_sound hcf hyf hok.op (e3 H)
      rw [e2] at hfr
      refine hsd.2 ρ w a I.sim hfr hG I.temps n r K Q fun ρ' v' w' hS st hv => ?_
      refine hK ρ' H g _ w' ?_
      refine I.next R hn hok hi hN hS (by rw [e2]; exact st) hv I.hg (fun d hd => .inr (I.below d hd)) (fun d e' he' h3' q' => ?_) (fun id k => ?_) I.out
      · rcases q' with rfl | q'
        · rw [hn.at_] at he'; cases he'; omega
        · exact I.g3 d e' he' h3' q'
      · rw [I.heap]
        refine ⟨fun z => ?_, fun z => ?_⟩
        · rcases z with z | ⟨d, q1, q2, q3, q4⟩
          · exact .inl z
          · exact .inr ⟨d, q1, q2, .inr q3, q4⟩
        · rcases z with z | ⟨d, q1, q2, q3, q4⟩
          · exact .inl z
          · rcases q3 with rfl | q3
            · exact absurd q4 (hna id k)
            · exact .inr ⟨d, q1, q2, q3, q4⟩
    · obtain ⟨_, e2, e3, _⟩ := opA_sort1 q hop
      have hna : ∀ id k, ¬ AlAt E t h x c id k := fun id k ⟨e', _, a1, a2, _⟩ => by rw [hn.at_] at a1; cases a1; omega
      have hl := I.load R hF hG hn hok (by omega) e3 (hlb (by omega)) hTo
      obtain ⟨_, _, _, e4⟩ := opA_sort1 q hop'
      have hsd := op_sound hcf hyf hok.op (e4 H (v c) hl)
      rw [e2] at hfr
      refine hsd.2 ρ w a I.sim hfr hG I.temps n r K Q fun ρ' v' w' hS st hv => ?_
      refine hK ρ' H g _ w' ?_
      refine I.next R hn hok hi hN hS (by rw [e2]; exact st) hv I.hg (fun d hd => .inr (I.below d hd)) (fun d e' he' h3' q' => ?_) (fun id k => ?_) I.out
      · rcases q' with rfl | q'
        · rw [hn.at_] at he'; cases he'; omega
        · exact I.g3 d e' he' h3' q'
      · rw [I.heap]
        refine ⟨fun z => ?_, fun z => ?_⟩
        · rcases z with z | ⟨d, q1, q2, q3, q4⟩
          · exact .inl z
          · exact .inr ⟨d, q1, q2, .inr q3, q4⟩
        · rcases z with z | ⟨d, q1, q2, q3, q4⟩
          · exact .inl z
          · rcases q3 with rfl | q3
            · exact absurd q4 (hna id k)
            · exact .inr ⟨d, q1, q2, q3, q4⟩
    · obtain ⟨l, e1, e2, e3⟩ := opA_sort2 q hop'
      have ha : AlAt E t h x c (x c) (.cells false l) := ⟨e, l, hn.at_, by omega, hw, rfl, rfl, e1, e2⟩
      have hu : ∀ id k, AlAt E t h x c id k → id = x c ∧ k = .cells false l := by
        rintro id k ⟨e', l', a1, a2, a3, rfl, rfl, a4, a5⟩
        rw [e1] at a4
        have := congrArg (PT.get (x c)) a4
        rw [PT.get_put_same, PT.get_put_same] at this
        exact ⟨rfl, by simpa using this.symm⟩
      have hsd := op_sound hcf hyf hok.op (e3 H)
      rw [e2] at hfr
      refine hsd.2 ρ w a I.sim hfr hG I.temps n r K Q fun ρ' v' w' hS st hv => ?_
      exact hK ρ' _ g _ w' (I.alloc R hn hok hi hN (by omega) ha hu hS (by rw [e2]; exact st) hv)
    · have h3 : e.s = 3 := by omega
      have hsd := op_sound hcf hyf hok.op hop'
      refine hsd.2 ρ w a (I.sim.sub (I.sub3 R hn h3)) hfr hG I.temps n r K Q fun ρ' v' w' hS st hv => ?_
      obtain ⟨H', I'⟩ := I.three R hn hok hi hN h3 hS st hv
      exact hK ρ' H' (c + 1) _ w' I'
  · rw [if_neg (by rw [want_ok hok I.temps (hwg.trans hw)]; simp)]
    refine ⟨fun _ _ => trivial, ?_⟩
    have hv : Rel ρ (v c) undef := by rw [hvu]; exact rel_undef
    by_cases h3 : e.s = 3
    · obtain ⟨H', I'⟩ := I.three R hn hok hi hN h3 (by rw [e1]; exact I.sim.sub (I.sub3 R hn h3)) (by rw [e1, e2]; exact Step.refl _ _ _ _) hv
      exact hK ρ H' (c + 1) _ w I'
    · exact hK ρ H g _ w (I.plain R hn hok hi hN h3 (fun id k ⟨e', _, a1, a2, a3, _⟩ => by rw [hn.at_] at a1; cases a1; rw [hw] at a3; cases a3) e2 hv)

/-- How many are not done. -/
def rem (listed : Array Bool) : Nat → Nat
  | 0 => 0
  | k + 1 => rem listed k + if listed.getD k true then 0 else 1

theorem rem_set {i : Nat} (hi : listed.getD i true = false) : ∀ k, (k ≤ i → rem (listed.setIfInBounds i true) k = rem listed k) ∧ (i < k → rem (listed.setIfInBounds i true) k + 1 = rem listed k)
  | 0 => ⟨fun _ => rfl, fun h => by omega⟩
  | k + 1 => by
    obtain ⟨h1, h2⟩ := rem_set hi k
    have hlt := (getD_of_true hi).2
    refine ⟨fun hk => ?_, fun hk => ?_⟩
    · simp only [rem, h1 (by omega), getD_set_ne true (show i ≠ k by omega)]
    · by_cases hik : i = k
      · subst hik
        simp only [rem, h1 (Nat.le_refl _), hi]
        have : (listed.setIfInBounds i true).getD i true = true := by
          rw [Array.getD_eq_getD_getElem?, Array.getElem?_setIfInBounds_self_of_lt hlt]; rfl
        rw [this]; simp
      · have := h2 (by omega)
        simp only [rem, getD_set_ne true hik]
        omega

/-- If nothing may come, all is done. -/
theorem all_done (R : Reg P gs cf yf N ops E t h x v sn) (I : Inv B ops E t h x v ρ0 w0 a0 listed a w ρ H g) (hr : Region.ready .any ops listed = []) : ∀ i, i < ops.size → listed.getD i false = true := by
  intro i
  induction i using Nat.strongRecOn with
  | _ i ih =>
    intro hi
    cases hl : listed.getD i false with
    | true => rfl
    | false =>
      exfalso
      have ho : ops[i]? = some ops[i] := Array.getElem?_eq_getElem hi
      have hu : listed.getD i true = false := by
        rw [Array.getD_eq_getD_getElem?] at hl ⊢
        rw [Array.getElem?_eq_getElem (by rw [I.size]; exact hi)] at hl ⊢
        exact hl
      have : i ∈ Region.ready .any ops listed := mem_ready.2 ⟨hu, ops[i], ho, fun e he hb => by
        have hlt := R.edges i _ ho e he hb
        exact ih e.on hlt (by omega)⟩
      rw [hr] at this; cases this

theorem Inv.done (R : Reg P gs cf yf N ops E t h x v sn) (I : Inv B ops E t h x v ρ0 w0 a0 listed a w ρ H g) (hr : Region.ready .any ops listed = []) :
    Sim B ρ (h E.length) w ∧ Step ρ0 (h 0) (x 0) w0 ρ (h E.length) (x E.length) w ∧ RelA ρ (t E.length) a.tmps := by
  have hall := all_done R I hr
  have hd : ∀ d, d < E.length → dn E listed d = true := fun d hd => by
    obtain ⟨e', he'⟩ : ∃ e', E[d]? = some e' := ⟨E[d], List.getElem?_eq_getElem hd⟩
    rw [dn_of he']
    obtain ⟨⟨o, ho, _⟩, _⟩ := R.ent d e' he'
    exact hall _ (Array.getElem?_eq_some_iff.1 ho).1
  have hsub : Sub (h E.length) H := by
    intro id k q
    rw [I.heap]
    rcases (R.range I.out E.length I.hg (Nat.le_refl _) (fun d e' h1 h2 he' q => by have := I.g3 d e' he' q (hd d h2); omega) id k).1 q with q | ⟨d, q1, q2, q3⟩
    · exact .inl q
    · exact .inr ⟨d, q1, q2, hd d q2, q3⟩
  refine ⟨I.sim.sub hsub, I.step.sub hsub, ?_⟩
  have := I.temps
  rwa [fT_upto R.tr _ E.length (Nat.le_refl _) hd] at this

theorem any_sound (hcf : CallsOK P gs B cf) (hyf : YieldsOK P gs B yf) (R : Reg P gs cf yf N ops E t h x v sn) (hF : Fresh ρ0 (x 0) (x E.length)) (hG0 : Glob gs ρ0) (hN : N ≤ a0.tmps.size) {n : Nat} {r : Option Nat} {Q : Exit → Act → World → Prop}
    (hQ : ∀ ρ' a' w', Sim B ρ' (h E.length) w' → Step ρ0 (h 0) (x 0) w0 ρ' (h E.length) (x E.length) w' → RelA ρ' (t E.length) a'.tmps → a'.tmps.size = a0.tmps.size → a'.defers = a0.defers → Q .normal a' w') :
    ∀ (fuel : Nat) (listed : Array Bool) (a : Act) (w : World) (ρ : Env) (H : AHeap) (g : Nat), Inv B ops E t h x v ρ0 w0 a0 listed a w ρ H g → rem listed ops.size ≤ fuel → wpAnyIn (Wd r) n P .any ops Q fuel listed a w := by
  intro fuel
  induction fuel with
  | zero =>
    intro listed a w ρ H g I hrem
    have hr : Region.ready .any ops listed = [] := by
      cases hr : Region.ready .any ops listed with
      | nil => rfl
      | cons i l =>
        exfalso
        have hi : i ∈ Region.ready .any ops listed := by rw [hr]; simp
        obtain ⟨hu, o, ho, _⟩ := mem_ready.1 hi
        have := (rem_set hu ops.size).2 (Array.getElem?_eq_some_iff.1 ho).1
        omega
    obtain ⟨s1, s2, s3⟩ := I.done R hr
    exact ⟨hr, hQ ρ a w s1 s2 s3 I.tsize I.defers⟩
  | succ fuel ih =>
    intro listed a w ρ H g I hrem
    refine ⟨fun hr => ?_, fun i hi => ?_⟩
    · obtain ⟨s1, s2, s3⟩ := I.done R hr
      exact hQ ρ a w s1 s2 s3 I.tsize I.defers
    · refine I.op hcf hyf R hF hG0 hN hi fun ρ' H' g' a' w' I' => ih _ _ _ _ _ _ I' ?_
      obtain ⟨hu, o, ho, _⟩ := mem_ready.1 hi
      have := (rem_set hu ops.size).2 (Array.getElem?_eq_some_iff.1 ho).1
      omega
end
end Go.Abs

namespace Go.Abs
section
variable {P : Program} {gs : List Nat} {B : Base}

theorem ents_spec {aos : List AOper} {ms sorts ord : List Nat} : ∀ (l : List Nat) (E : List Ent), ents aos ms sorts ord l = some E → ∀ (c : Nat) (e : Ent), E[c]? = some e → aos[e.i]? = some e.o ∧ e.m = ms.getD e.i 0 ∧ e.s = e.o.op.sort
  | [], E, h, c, e, he => by simp [ents] at h; subst h; simp at he
  | i :: l, E, h, c, e, he => by
    simp only [ents] at h
    split at h
    · rename_i a r ha hr
      simp at h; subst h
      cases c with
      | zero => simp at he; subst he; exact ⟨ha, rfl, rfl⟩
      | succ c => exact ents_spec l r hr c e (by simpa using he)
    · cases h

theorem copers_at {N : Nat} {ops : Array Oper} : ∀ (os : List Oper) (aos : List AOper), copers P gs N ops os = some aos → ∀ (i : Nat) (ao : AOper), aos[i]? = some ao → ∃ o, os[i]? = some o ∧ coper P gs N ops o = some ao
  | [], aos, h, i, ao, hi => by simp [copers] at h; subst h; simp at hi
  | o :: os, aos, h, i, ao, hi => by
    simp only [copers] at h
    split at h
    · rename_i a l h1 h2
      simp at h; subst h
      cases i with
      | zero => simp at hi; subst hi; exact ⟨o, rfl, h1⟩
      | succ i => exact copers_at os l h2 i ao (by simpa using hi)
    · cases h

theorem edgesOK_at : ∀ (os : List Oper) (k : Nat), edgesOK os k = true → ∀ (i : Nat) (o : Oper), os[i]? = some o → ∀ e ∈ o.after, Region.binds .any e = true → e.on < k + i
  | [], _, _, _, _, h => by simp at h
  | o' :: os, k, h, i, o, hi => by
    simp only [edgesOK, Bool.and_eq_true] at h
    cases i with
    | zero =>
      simp at hi; subst hi
      intro e he hb
      have := List.all_eq_true.1 h.1 e (by simpa using he)
      simpa [hb] using this
    | succ i =>
      intro e he hb
      have := edgesOK_at os (k + 1) h.2 i o (by simpa using hi) e he hb
      omega

theorem rem_all {listed : Array Bool} (h : ∀ i, listed.getD i true = false ∨ True) : ∀ k, rem listed k ≤ k
  | 0 => Nat.le_refl _
  | k + 1 => by
    have := rem_all h k
    simp only [rem]
    split <;> omega

theorem draws_ok (hm : P.follows .mixedOrders = true) : DrawsOK P gs B := by
  intro cf yf hcf hyf N rid ops dl T H nx T' H' nx' hc hd
  unfold cdrw at hc
  split at hc
  · rename_i aos hco
    split at hc
    · rename_i E hE
      split at hc
      · rename_i hok
        simp at hc; subst hc
        simp only [Bool.and_eq_true] at hok
        obtain ⟨⟨hall, hedge⟩, hcov⟩ := hok
        obtain ⟨t, h, x, v, sn, tr, rfl, rfl, rfl, s0, t1, h1, x1⟩ := drw_trace _ _ _ _ _ _ _ _ hd
        rw [List.length_map] at t1 h1 x1
        have ent : ∀ (c : Nat) (e : Ent), E[c]? = some e → (∃ o, ops[e.i]? = some o ∧ OperOK P gs N ops o e.o) ∧ e.m = (masks ops.toList []).getD e.i 0 ∧ e.s = e.o.op.sort := by
          intro c e he
          obtain ⟨a1, a2, a3⟩ := ents_spec _ _ hE c e he
          obtain ⟨o, o1, o2⟩ := copers_at _ _ hco _ _ a1
          exact ⟨⟨o, by simpa using o1, coper_ok o2⟩, a2, a3⟩
        have R : Reg P gs cf yf N ops E t h x v sn := by
          refine ⟨tr, ent, hall, fun i hi => ?_, fun i o ho e he hb => ?_, s0, fun c hc => ?_⟩
          · have := List.all_eq_true.1 hcov i (by simpa using hi)
            obtain ⟨e, he, q⟩ := List.any_eq_true.1 this
            obtain ⟨c, hc, hce⟩ := List.getElem_of_mem he
            exact ⟨c, e, by rw [List.getElem?_eq_getElem hc, hce], Nat.eq_of_beq_eq_true q⟩
          · have := edgesOK_at _ _ hedge i o (by simpa using ho) e he hb
            omega
          · obtain ⟨e, he⟩ : ∃ e, E[c]? = some e := ⟨E[c], List.getElem?_eq_getElem hc⟩
            rcases tr.step c e.s e.k e.o (by simp [he]) with ⟨_, hop, _⟩ | ⟨_, _, _, q⟩
            · obtain ⟨⟨o, _, hok⟩, _⟩ := ent c e he
              exact (op_sound hcf hyf hok.op hop).1
            · rw [q]; exact Nat.le_refl _
        have hle : (x 0).toNat ≤ nx'.toNat := by rw [← x1]; exact R.le (Nat.zero_le _) (Nat.le_refl _)
        refine ⟨hle, fun ρ w a hS hF hG hT hN n r Q hQ => ?_⟩
        rw [← x1] at hF
        have hfalse : ∀ i, (Array.replicate ops.size false).getD i false = false := fun i => by
          rw [Array.getD_eq_getD_getElem?, Array.getElem?_replicate]; split <;> rfl
        have hdn : ∀ d, dn E (Array.replicate ops.size false) d = false := fun d => by
          unfold dn
          split
          · exact hfalse _
          · rfl
        have I0 : Inv B ops E t h x v ρ w a (Array.replicate ops.size false) a { w with drawn := w.drawn + 1 } ρ (h 0) 0 := by
          refine ⟨by simp, (fun i o hi => by rw [hfalse] at hi; cases hi), ?_, rfl, rfl, hS.drew, ?_, Nat.zero_le _, (fun c hc => by omega), (fun c e _ _ hd => by rw [hdn] at hd; cases hd), fun id k => ?_, fun id h0 h1 => absurd h0 h1, fun id k q => ?_⟩
          · have : fT E v (t 0) (dn E (Array.replicate ops.size false)) E.length = t 0 := fT_stay _ 0 (fun d _ => hdn d) _ (Nat.zero_le _)
            rw [this]; exact hT
          · have := (Step.refl ρ (h 0) (x 0) w).drew
            exact ⟨this.ext, fun id a b => absurd a b, this.size, this.os, this.tape, this.output, this.frame, this.orig, fun id k e => .inl ⟨k, e⟩⟩
          · refine ⟨.inl, fun q => ?_⟩
            rcases q with q | ⟨c, _, _, q, _⟩
            · exact q
            · rw [hdn] at q; cases q
          · rintro ⟨q1, q2⟩
            obtain ⟨b, o, hb⟩ := hS.mapped q
            have := hF id q1 q2
            rw [hb] at this; cases this
        refine wpIn_region_any hm (any_sound hcf hyf R hF hG hN (fun ρ' a' w' s1 s2 s3 s4 s5 => ?_) _ _ _ _ _ _ _ I0 (rem_all (fun _ => .inr trivial) _))
        rw [h1] at s1
        rw [h1, x1] at s2
        rw [t1] at s3
        exact hQ ρ' a' w' s1 s2 s3 s4 s5
      · cases hc
    · cases hc
  · cases hc

/-- What abstract code is made from. -/
def mkB (P : Program) (gs : List Nat) (h : Array Obj) : Base := { n := h.size, old := h, cr := fun m c ac => ∃ N, N ≤ m ∧ cc P gs N c = some ac }

theorem mkB_ok (n : Array Obj) : CrOK P gs (mkB P gs n) := fun _ _ _ => Iff.rfl

/-- THE INTERPRETER IS SOUND: a call of a function of the program's. -/
theorem call_ok (hm : P.follows .mixedOrders = true) {fns : Nat → Option AFn} {sum : Nat → List AV → AHeap → Option AV} {n0 : Array Obj} (hfns : FnsOK P gs fns) (hsum : SumOK P gs (mkB P gs n0) sum) {m f : Nat} {args : List AV} {H : AHeap} {nx : Pos} {v : AV} {H' : AHeap} {nx' : Pos}
    (h : top fns sum m f args H nx = some (v, H', nx')) : CallSpec P gs (mkB P gs n0) f args H nx v H' nx' :=
  top_sound (draws_ok hm) hfns hsum (mkB_ok n0) h

/-- The same, of code. -/
theorem code_ok (hm : P.follows .mixedOrders = true) {fns : Nat → Option AFn} {sum : Nat → List AV → AHeap → Option AV} {n0 : Array Obj} (hfns : FnsOK P gs fns) (hsum : SumOK P gs (mkB P gs n0) sum) {m N : Nat} {c : Code} {ac : AC} {s : St} {x : AEx} {s' : St}
    (hc : cc P gs N c = some ac) (h : exec fns sum m ac none s = some (x, s')) : CodeSpec P gs (mkB P gs n0) N c none s x s' :=
  (exec_sound (draws_ok hm) hfns hsum (mkB_ok n0) m).1 _ _ _ _ _ _ _ hc h
end
end Go.Abs
