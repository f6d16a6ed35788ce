/- The abstract interpreter, part Z: regions whose order is open: every order. -/
import Derived.Test.YteofddgoedkhcaaGreatDoorAbsY
namespace Go.Abs

/-- Is the operation at this place done? -/
def dn (E : List Ent) (listed : Array Bool) (c : Nat) : Bool := match E[c]? with
  | some e => listed.getD e.i false
  | none => false

/-- On the way. -/
structure Inv (B : Base) (ops : Array Oper) (E : List Ent) (t : Nat → PT AV) (h : Nat → AHeap) (x : Nat → Pos) (v : Nat → AV) (ρ0 : Env) (w0 : World) (a0 : Act) (listed : Array Bool) (a : Act) (w : World) (ρ : Env) (H : AHeap) (g : Nat) : Prop where
  size : listed.size = ops.size
  closed : Closed ops listed
  temps : RelA ρ (fT E v (t 0) (dn E listed) E.length) a.tmps
  tsize : a.tmps.size = a0.tmps.size
  defers : a.defers = a0.defers
  sim : Sim B ρ H w
  step : Step ρ0 (h 0) (x 0) w0 ρ H (x E.length) w
  hg : g ≤ E.length
  below : ∀ c, c < g → dn E listed c = true
  g3 : ∀ c e, E[c]? = some e → e.s = 3 → dn E listed c = true → c < g
  heap : ∀ id k, PT.get id H = some k ↔ (PT.get id (h g) = some k ∨ ∃ c, g ≤ c ∧ c < E.length ∧ dn E listed c = true ∧ AlAt E t h x c id k)
  names : ∀ id, ρ0 id = none → ρ id ≠ none → ∃ c, c < E.length ∧ dn E listed c = true ∧ (x c).toNat ≤ id.toNat ∧ id.toNat < (x (c + 1)).toNat
  out : ∀ id k, PT.get id (h g) = some k → ¬ ((x g).toNat ≤ id.toNat ∧ id.toNat < (x E.length).toNat)

section
variable {P : Program} {gs : List Nat} {B : Base} {cf : CallR} {yf : YieldR} {N : Nat} {ops : Array Oper} {E : List Ent} {t : Nat → PT AV} {h : Nat → AHeap} {x : Nat → Pos} {v : Nat → AV} {sn : Nat → List AHeap}
variable {ρ0 : Env} {w0 : World} {a0 : Act} {listed : Array Bool} {a : Act} {w : World} {ρ : Env} {H : AHeap} {g : Nat}

theorem listed_in (hsz : listed.size = ops.size) : ∀ i, listed.getD i false = true → ∃ o, ops[i]? = some o := fun i hi => by
  by_cases hlt : i < ops.size
  · exact ⟨ops[i], Array.getElem?_eq_getElem hlt⟩
  · rw [Array.getD_eq_getD_getElem?, Array.getElem?_eq_none (by omega)] at hi; cases hi

theorem getD_of_true {i : Nat} (hi : listed.getD i true = false) : listed.getD i false = false ∧ i < listed.size := by
  rw [Array.getD_eq_getD_getElem?] at hi ⊢
  by_cases hlt : i < listed.size
  · rw [Array.getElem?_eq_getElem hlt] at hi ⊢
    exact ⟨hi, hlt⟩
  · rw [Array.getElem?_eq_none (by omega)] at hi; cases hi

theorem dn_set (R : Reg P gs cf yf N ops E t h x v sn) {c : Nat} {e : Ent} (he : E[c]? = some e) (hlt : e.i < listed.size) (d : Nat) : dn E (listed.setIfInBounds e.i true) d = if d = c then true else dn E listed d := by
  unfold dn
  cases hd : E[d]? with
  | none =>
    by_cases hdc : d = c
    · subst hdc; rw [he] at hd; cases hd
    · rw [if_neg hdc]
  | some e' =>
    simp only
    by_cases hdc : d = c
    · subst hdc
      rw [he] at hd; cases hd
      rw [if_pos rfl, Array.getD_eq_getD_getElem?, Array.getElem?_setIfInBounds_self_of_lt hlt]; rfl
    · rw [if_neg hdc]
      have hne : e.i ≠ e'.i := fun q => hdc (R.inj hd he q.symm)
      rw [Array.getD_eq_getD_getElem?, Array.getElem?_setIfInBounds_ne hne, ← Array.getD_eq_getD_getElem?]

/-- What an operation that may come now finds. -/
structure Now (E : List Ent) (listed : Array Bool) (c : Nat) (e : Ent) : Prop where
  at_ : E[c]? = some e
  undone : dn E listed c = false
  lt : e.i < listed.size
  anc : ∀ j, e.m.testBit j = true → listed.getD j false = true

theorem dn_of {d : Nat} {e : Ent} (he : E[d]? = some e) : dn E listed d = listed.getD e.i false := by simp only [dn, he]

theorem Inv.now (R : Reg P gs cf yf N ops E t h x v sn) (I : Inv B ops E t h x v ρ0 w0 a0 listed a w ρ H g) {i : Nat} (hi : i ∈ Region.ready .any ops listed) : ∃ c e o, Now E listed c e ∧ e.i = i ∧ ops[i]? = some o ∧ OperOK P gs N ops o e.o := by
  obtain ⟨hu, o, ho, hall⟩ := mem_ready.1 hi
  obtain ⟨u1, u2⟩ := getD_of_true hu
  obtain ⟨c, e, he, rfl⟩ := R.cov i (by rw [← I.size]; exact u2)
  obtain ⟨⟨o', ho', hok⟩, hm, _⟩ := R.ent c e he
  rw [ho] at ho'; cases ho'
  refine ⟨c, e, o, ⟨he, by rw [dn_of he]; exact u1, u2, fun j hj => ?_⟩, rfl, ho, hok⟩
  rw [hm] at hj
  exact anc_ready I.closed (listed_in I.size) hi hj

/-- The temporaries that it names are as in the chosen order. -/
theorem Inv.same_temps (R : Reg P gs cf yf N ops E t h x v sn) (I : Inv B ops E t h x v ρ0 w0 a0 listed a w ρ H g) {c : Nat} {e : Ent} (hn : Now E listed c e) {p : Pos} (hp : p ∈ e.o.tms) :
    PT.get p (fT E v (t 0) (dn E listed) E.length) = PT.get p (t c) := by
  have hlt : c < E.length := (List.getElem?_eq_some_iff.1 hn.at_).1
  have hq : fT E v (t 0) (fun d => decide (d < c)) E.length = t c := by
    rw [fT_stay (fun d => decide (d < c)) c (fun d hd => by simp; omega) E.length (by omega), fT_upto R.tr _ c (by omega) (fun d hd => by simpa using hd)]
  rw [← hq]
  refine fT_congr _ fun d e' hd he' hdst => ?_
  have hit : ∀ {o : AOper}, p ∈ o.tms → hits e'.o.dst o = true := fun ho => by
    rw [hdst]
    simp only [hits, List.any_eq_true]
    exact ⟨p, ho, samePos_refl p⟩
  rcases Nat.lt_trichotomy d c with q | q | q
  · have hb := (R.pair q he' hn.at_).1 (hit hp)
    rw [dn_of he', hn.anc _ hb]
    simp [q]
  · subst q; rw [hn.undone]; simp
  · have hb := (R.pair q hn.at_ he').2.1 (hit hp)
    have : dn E listed d = false := by
      cases hdd : dn E listed d with
      | false => rfl
      | true =>
        rw [dn_of he'] at hdd
        rw [(R.ent d e' he').2.1] at hb
        have := anc_done I.closed (listed_in I.size) _ _ hdd hb
        rw [← dn_of hn.at_, hn.undone] at this; cases this
    rw [this]
    simp; omega

theorem Inv.g_le (I : Inv B ops E t h x v ρ0 w0 a0 listed a w ρ H g) {c : Nat} {e : Ent} (hn : Now E listed c e) : g ≤ c := by
  rcases Nat.lt_or_ge c g with q | q
  · have := I.below c q; rw [hn.undone] at this; cases this
  · exact q

/-- The next state, but for the heap. -/
theorem Inv.next (R : Reg P gs cf yf N ops E t h x v sn) (I : Inv B ops E t h x v ρ0 w0 a0 listed a w ρ H g) {c : Nat} {e : Ent} {o : Oper} (hn : Now E listed c e) (hok : OperOK P gs N ops o e.o) (hr : e.i ∈ Region.ready .any ops listed)
    (hN : N ≤ a0.tmps.size) {ρ' : Env} {w' : World} {H' : AHeap} {v' : Value} {g' : Nat} (hS : Sim B ρ' H' w') (st : Step ρ H (x c) w ρ' H' (x (c + 1)) w') (hv : Rel ρ' (v c) v') (hg' : g' ≤ E.length)
    (hbelow : ∀ d, d < g' → d = c ∨ dn E listed d = true) (h3 : ∀ d e', E[d]? = some e' → e'.s = 3 → d = c ∨ dn E listed d = true → d < g')
    (hheap : ∀ id k, PT.get id H' = some k ↔ (PT.get id (h g') = some k ∨ ∃ d, g' ≤ d ∧ d < E.length ∧ (d = c ∨ dn E listed d = true) ∧ AlAt E t h x d id k))
    (hout : ∀ id k, PT.get id (h g') = some k → ¬ ((x g').toNat ≤ id.toNat ∧ id.toNat < (x E.length).toNat)) :
    Inv B ops E t h x v ρ0 w0 a0 (listed.setIfInBounds e.i true) (a.put o.dst v') w' ρ' H' g' := by
  have hlt : c < E.length := (List.getElem?_eq_some_iff.1 hn.at_).1
  have hd : ∀ d, dn E (listed.setIfInBounds e.i true) d = if d = c then true else dn E listed d := dn_set R hn.at_ hn.lt
  have hd' : ∀ d, dn E (listed.setIfInBounds e.i true) d = true ↔ (d = c ∨ dn E listed d = true) := fun d => by
    rw [hd]
    by_cases q : d = c
    · simp [q]
    · simp [q]
  have l1 := R.le (c := 0) (d := c) (by omega) (by omega)
  have l2 := R.le (c := c + 1) (d := E.length) (by omega) (Nat.le_refl _)
  have hT := I.temps.mono st.ext
  have hNa : N ≤ a.tmps.size := by rw [I.tsize]; exact hN
  obtain ⟨p1, p2, p3⟩ := put_rel hok hT hv hNa
  refine ⟨by simp [I.size], ?_, ?_, p2.trans I.tsize, p3.trans I.defers, hS, I.step.join st l1 l2, hg', fun d q => (hd' d).2 (hbelow d q), fun d e' he' q3 q => h3 d e' he' q3 ((hd' d).1 q), fun id k => ?_, fun id h0 h1 => ?_, hout⟩
  · intro i o' hi ho' ed hed hb
    obtain ⟨_, o'', ho'', hall⟩ := mem_ready.1 hr
    by_cases hie : i = e.i
    · subst hie
      rw [ho'] at ho''; cases ho''
      exact getD_set_true (hall ed hed hb)
    · have hi' : listed.getD i false = true := by
        rw [Array.getD_eq_getD_getElem?, Array.getElem?_setIfInBounds_ne (Ne.symm hie), ← Array.getD_eq_getD_getElem?] at hi
        exact hi
      exact getD_set_true (I.closed i o' hi' ho' ed hed hb)
  · refine RelA.congr (fun p => ?_) p1
    refine (fT_put hn.at_ hn.undone (by rw [hd, if_pos rfl]) (fun d q => by rw [hd, if_neg q]) p (fun d e' hcd he' h1 h2 => ?_) E.length hlt).symm
    -- a later one that writes the same comes surely behind
    cases hdd : dn E listed d with
    | false => rfl
    | true =>
      have hit : hits e'.o.dst e.o = true := by
        rw [h2]
        simp only [hits, List.any_eq_true]
        exact ⟨p, by simp [AOper.tms, h1], samePos_refl p⟩
      have hb := (R.pair hcd hn.at_ he').2.1 hit
      rw [dn_of he'] at hdd
      rw [(R.ent d e' he').2.1] at hb
      have := anc_done I.closed (listed_in I.size) _ _ hdd hb
      rw [← dn_of hn.at_, hn.undone] at this; cases this
  · rw [hheap]
    refine ⟨fun q => ?_, fun q => ?_⟩
    · rcases q with q | ⟨d, q1, q2, q3, q4⟩
      · exact .inl q
      · exact .inr ⟨d, q1, q2, (hd' d).2 q3, q4⟩
    · rcases q with q | ⟨d, q1, q2, q3, q4⟩
      · exact .inl q
      · exact .inr ⟨d, q1, q2, (hd' d).1 q3, q4⟩
  · by_cases hρ : ρ id = none
    · have := st.fresh id hρ h1
      exact ⟨c, hlt, (hd' c).2 (.inl rfl), this.1, this.2⟩
    · obtain ⟨d, d1, d2, d3⟩ := I.names id h0 hρ
      exact ⟨d, d1, (hd' d).2 (.inr d2), d3⟩

/-- Names that are still to come. -/
theorem Inv.fresh (R : Reg P gs cf yf N ops E t h x v sn) (I : Inv B ops E t h x v ρ0 w0 a0 listed a w ρ H g) (hF : Fresh ρ0 (x 0) (x E.length)) {c : Nat} {e : Ent} (hn : Now E listed c e) : Fresh ρ (x c) (x (c + 1)) := by
  have hlt : c < E.length := (List.getElem?_eq_some_iff.1 hn.at_).1
  intro id h1 h2
  by_cases hρ : ρ id = none
  · exact hρ
  · exfalso
    have l1 := R.le (c := 0) (d := c) (by omega) (by omega)
    have l2 := R.le (c := c + 1) (d := E.length) (by omega) (Nat.le_refl _)
    obtain ⟨d, d1, d2, d3, d4⟩ := I.names id (hF id (by omega) (by omega)) hρ
    rcases Nat.lt_trichotomy d c with q | q | q
    · have := R.le (c := d + 1) (d := c) (by omega) (by omega); omega
    · subst q; rw [hn.undone] at d2; cases d2
    · have := R.le (c := c + 1) (d := d) (by omega) (by omega); omega
end
end Go.Abs
