/- The abstract interpreter, part Zb: one operation of a region whose order is open; the region. -/
import Derived.Test.YteofddgoedkhcaaGreatDoorAbsZ
import Derived.OrdersIn
namespace Go.Abs
section
variable {P : Program} {gs : List Nat} {B : Base} {cf : CallR} {yf : YieldR} {N : Nat} {ops : Array Oper} {E : List Ent} {t : Nat → PT AV} {h : Nat → AHeap} {x : Nat → Pos} {v : Nat → AV} {sn : Nat → List AHeap}
variable {ρ0 : Env} {w0 : World} {a0 : Act} {listed : Array Bool} {a : Act} {w : World} {ρ : Env} {H : AHeap} {g : Nat}

/-- An operation that is not of sort 3 and makes no block. -/
theorem Inv.plain (R : Reg P gs cf yf N ops E t h x v sn) (I : Inv B ops E t h x v ρ0 w0 a0 listed a w ρ H g) {c : Nat} {e : Ent} {o : Oper} (hn : Now E listed c e) (hok : OperOK P gs N ops o e.o) (hr : e.i ∈ Region.ready .any ops listed)
    (hN : N ≤ a0.tmps.size) (h3 : e.s ≠ 3) (hna : ∀ id k, ¬ AlAt E t h x c id k) (hx : x (c + 1) = x c) {v' : Value} (hv : Rel ρ (v c) v') :
    Inv B ops E t h x v ρ0 w0 a0 (listed.setIfInBounds e.i true) (a.put o.dst v') w ρ H g := by
  refine I.next R hn hok hr hN I.sim (by rw [hx]; exact Step.refl _ _ _ _) hv I.hg (fun d hd => .inr (I.below d hd)) (fun d e' he' h3' q => ?_) (fun id k => ?_) I.out
  · rcases q with rfl | q
    · rw [hn.at_] at he'; cases he'; exact absurd h3' h3
    · exact I.g3 d e' he' h3' q
  · rw [I.heap]
    refine ⟨fun q => ?_, fun q => ?_⟩
    · rcases q with q | ⟨d, q1, q2, q3, q4⟩
      · exact .inl q
      · exact .inr ⟨d, q1, q2, .inr q3, q4⟩
    · rcases q with q | ⟨d, q1, q2, q3, q4⟩
      · exact .inl q
      · rcases q3 with rfl | q3
        · exact absurd q4 (hna id k)
        · exact .inr ⟨d, q1, q2, q3, q4⟩

/-- An operation that makes a block. -/
theorem Inv.alloc (R : Reg P gs cf yf N ops E t h x v sn) (I : Inv B ops E t h x v ρ0 w0 a0 listed a w ρ H g) {c : Nat} {e : Ent} {o : Oper} (hn : Now E listed c e) (hok : OperOK P gs N ops o e.o) (hr : e.i ∈ Region.ready .any ops listed)
    (hN : N ≤ a0.tmps.size) (h3 : e.s ≠ 3) {l : List AV} (ha : AlAt E t h x c (x c) (.cells false l)) (hu : ∀ id k, AlAt E t h x c id k → id = x c ∧ k = .cells false l) {ρ' : Env} {w' : World} {v' : Value}
    (hS : Sim B ρ' (PT.put (x c) (some (.cells false l)) H) w') (st : Step ρ H (x c) w ρ' (PT.put (x c) (some (.cells false l)) H) (x (c + 1)) w') (hv : Rel ρ' (v c) v') :
    Inv B ops E t h x v ρ0 w0 a0 (listed.setIfInBounds e.i true) (a.put o.dst v') w' ρ' (PT.put (x c) (some (.cells false l)) H) g := by
  have hlt : c < E.length := (List.getElem?_eq_some_iff.1 hn.at_).1
  have hgc := I.g_le hn
  obtain ⟨_, _, hx⟩ := ha.lt
  have lo := R.le (c := g) (d := c) hgc (by omega)
  have hi := R.le (c := c + 1) (d := E.length) (by omega) (Nat.le_refl _)
  refine I.next R hn hok hr hN hS st hv I.hg (fun d hd => .inr (I.below d hd)) (fun d e' he' h3' q => ?_) (fun id k => ?_) I.out
  · rcases q with rfl | q
    · rw [hn.at_] at he'; cases he'; exact absurd h3' h3
    · exact I.g3 d e' he' h3' q
  · by_cases hid : id = x c
    · subst hid
      rw [PT.get_put_same]
      refine ⟨fun q => .inr ⟨c, hgc, hlt, .inl rfl, by cases q; exact ha⟩, fun q => ?_⟩
      rcases q with q | ⟨d, q1, q2, q3, q4⟩
      · exact absurd ⟨lo, by omega⟩ (I.out _ _ q)
      · by_cases hc : d = c
        · subst hc; rw [(hu _ _ q4).2]
        · exact absurd rfl (R.alne q4 ha hc)
    · rw [PT.get_put_other _ _ _ _ hid, I.heap]
      refine ⟨fun q => ?_, fun q => ?_⟩
      · rcases q with q | ⟨d, q1, q2, q3, q4⟩
        · exact .inl q
        · exact .inr ⟨d, q1, q2, .inr q3, q4⟩
      · rcases q with q | ⟨d, q1, q2, q3, q4⟩
        · exact .inl q
        · rcases q3 with rfl | q3
          · exact absurd (hu _ _ q4).1 hid
          · exact .inr ⟨d, q1, q2, q3, q4⟩

/-- What is done when an operation of sort 3 comes. -/
theorem Inv.all_below (R : Reg P gs cf yf N ops E t h x v sn) (_I : Inv B ops E t h x v ρ0 w0 a0 listed a w ρ H g) {c : Nat} {e : Ent} (hn : Now E listed c e) (h3 : e.s = 3) {d : Nat} (hd : d < c) : dn E listed d = true := by
  have hlt : c < E.length := (List.getElem?_eq_some_iff.1 hn.at_).1
  obtain ⟨e', he'⟩ : ∃ e', E[d]? = some e' := ⟨E[d], List.getElem?_eq_getElem (by omega)⟩
  rw [dn_of he']
  exact hn.anc _ ((R.pair hd he' hn.at_).2.2.1 h3)

theorem Inv.range3 (R : Reg P gs cf yf N ops E t h x v sn) (I : Inv B ops E t h x v ρ0 w0 a0 listed a w ρ H g) {c : Nat} {e : Ent} (hn : Now E listed c e) (h3 : e.s = 3) (id : Pos) (k : Blk) :
    PT.get id (h c) = some k ↔ (PT.get id (h g) = some k ∨ ∃ d, g ≤ d ∧ d < c ∧ AlAt E t h x d id k) := by
  have hlt : c < E.length := (List.getElem?_eq_some_iff.1 hn.at_).1
  refine R.range I.out c (I.g_le hn) (by omega) (fun d e' h1 h2 he' q => ?_) id k
  have := I.g3 d e' he' q (I.all_below R hn h3 h2)
  omega

theorem Inv.sub3 (R : Reg P gs cf yf N ops E t h x v sn) (I : Inv B ops E t h x v ρ0 w0 a0 listed a w ρ H g) {c : Nat} {e : Ent} (hn : Now E listed c e) (h3 : e.s = 3) : Sub (h c) H := by
  have hlt : c < E.length := (List.getElem?_eq_some_iff.1 hn.at_).1
  intro id k q
  rw [I.heap]
  rcases (I.range3 R hn h3 id k).1 q with q | ⟨d, q1, q2, q3⟩
  · exact .inl q
  · exact .inr ⟨d, q1, by omega, I.all_below R hn h3 q2, q3⟩

/-- An operation of sort 3. -/
theorem Inv.three (R : Reg P gs cf yf N ops E t h x v sn) (I : Inv B ops E t h x v ρ0 w0 a0 listed a w ρ H g) {c : Nat} {e : Ent} {o : Oper} (hn : Now E listed c e) (hok : OperOK P gs N ops o e.o) (hr : e.i ∈ Region.ready .any ops listed)
    (hN : N ≤ a0.tmps.size) (h3 : e.s = 3) {ρ' : Env} {w' : World} {v' : Value} (hS : Sim B ρ' (h (c + 1)) w') (st : Step ρ (h c) (x c) w ρ' (h (c + 1)) (x (c + 1)) w') (hv : Rel ρ' (v c) v') :
    ∃ H', Inv B ops E t h x v ρ0 w0 a0 (listed.setIfInBounds e.i true) (a.put o.dst v') w' ρ' H' (c + 1) := by
  have hlt : c < E.length := (List.getElem?_eq_some_iff.1 hn.at_).1
  have hgc := I.g_le hn
  have hsub := I.sub3 R hn h3
  have l1 := R.mono c hlt
  have l2 := R.le (c := c + 1) (d := E.length) (by omega) (Nat.le_refl _)
  have l3 := R.le (c := g) (d := c) hgc (by omega)
  -- no name to come lies in the heap before
  have outc : ∀ id k, PT.get id (h c) = some k → ¬ ((x c).toNat ≤ id.toNat ∧ id.toNat < (x E.length).toNat) := by
    intro id k q
    rcases (I.range3 R hn h3 id k).1 q with q | ⟨d, q1, q2, q3⟩
    · have := I.out id k q; omega
    · obtain ⟨_, rfl, qx⟩ := q3.lt
      have := R.le (c := d + 1) (d := c) (by omega) (by omega)
      omega
  have out1 : ∀ id k, PT.get id (h (c + 1)) = some k → ¬ ((x (c + 1)).toNat ≤ id.toNat ∧ id.toNat < (x E.length).toNat) := by
    intro id k q
    rcases st.dom id k q with ⟨k0, q⟩ | q
    · have := outc id k0 q; omega
    · omega
  obtain ⟨H', hH'⟩ := R.grown (dn E listed) out1 E.length (Nat.le_refl _)
  have hR : Rest H (h c) (h (c + 1)) H' := by
    intro id k q
    rcases (hH' id k).1 q with q | ⟨d, q1, q2, q3, q4⟩
    · exact .inl q
    · refine .inr ⟨?_, (I.heap id k).2 (.inr ⟨d, by omega, q2, q3, q4⟩), ?_⟩
      · cases hg : PT.get id (h c) with
        | none => rfl
        | some k0 =>
          obtain ⟨_, rfl, qx⟩ := q4.lt
          have := outc _ _ hg
          have := R.le (c := c) (d := d) (by omega) (by omega)
          have := R.le (c := d + 1) (d := E.length) (by omega) (Nat.le_refl _)
          omega
      · obtain ⟨_, _, _, _, _, _, rfl, _⟩ := q4
        exact ⟨rfl, rfl⟩
  obtain ⟨s1, s2⟩ := glue I.sim hsub st hS hR
  refine ⟨H', I.next R hn hok hr hN s1 s2 hv (by omega) (fun d hd => ?_) (fun d e' he' h3' q => ?_) (fun id k => ?_) out1⟩
  · by_cases hdc : d = c
    · exact .inl hdc
    · exact .inr (I.all_below R hn h3 (by omega))
  · rcases q with rfl | q
    · omega
    · have := I.g3 d e' he' h3' q; omega
  · rw [hH']
    refine ⟨fun q => ?_, fun q => ?_⟩
    · rcases q with q | ⟨d, q1, q2, q3, q4⟩
      · exact .inl q
      · exact .inr ⟨d, q1, q2, .inr q3, q4⟩
    · rcases q with q | ⟨d, q1, q2, q3, q4⟩
      · exact .inl q
      · rcases q3 with rfl | q3
        · omega
        · exact .inr ⟨d, q1, q2, q3, q4⟩

/-- A load: in the state where it comes it finds what it finds in the chosen order. -/
theorem Inv.load (R : Reg P gs cf yf N ops E t h x v sn) (I : Inv B ops E t h x v ρ0 w0 a0 listed a w ρ H g) (hF : Fresh ρ0 (x 0) (x E.length)) (hG : Glob gs ρ) {c : Nat} {e : Ent} {o : Oper} (hn : Now E listed c e) (hok : OperOK P gs N ops o e.o)
    (h1 : e.s = 1) (hl : ldA (ev (t c)) (h c) e.o.op = some (v c)) (hlb : lookBack (ev (t c)) e.o.op (v c) e.k (sn c) = true) (hT : ∀ p ∈ e.o.op.tms, PT.get p (fT E v (t 0) (dn E listed) E.length) = PT.get p (t c)) :
    ldA (ev (fT E v (t 0) (dn E listed) E.length)) H e.o.op = some (v c) := by
  have hlt : c < E.length := (List.getElem?_eq_some_iff.1 hn.at_).1
  have hgc := I.g_le hn
  -- the first operation of sort 3 that is not done
  have first : ∃ d, g ≤ d ∧ d ≤ c ∧ (∀ d' e', g ≤ d' → d' < d → E[d']? = some e' → e'.s ≠ 3) ∧ (d = c ∨ ∃ e', E[d]? = some e' ∧ e'.s = 3) := by
    have : ∀ m, g + m ≤ c → (∃ d, g ≤ d ∧ d ≤ g + m ∧ (∀ d' e', g ≤ d' → d' < d → E[d']? = some e' → e'.s ≠ 3) ∧ ∃ e', E[d]? = some e' ∧ e'.s = 3) ∨ (∀ d' e', g ≤ d' → d' < g + m → E[d']? = some e' → e'.s ≠ 3) := by
      intro m
      induction m with
      | zero => intro _; exact .inr fun d' _ q1 q2 => by omega
      | succ m ih =>
        intro hm
        rcases ih (by omega) with ⟨d, q1, q2, q3, q4⟩ | hno
        · exact .inl ⟨d, q1, by omega, q3, q4⟩
        · obtain ⟨e', he'⟩ : ∃ e', E[g + m]? = some e' := ⟨E[g + m], List.getElem?_eq_getElem (by omega)⟩
          by_cases h3 : e'.s = 3
          · exact .inl ⟨g + m, by omega, by omega, hno, e', he', h3⟩
          · refine .inr fun d' e2 q1 q2 q3 => ?_
            by_cases hd : d' = g + m
            · subst hd; rw [he'] at q3; cases q3; exact h3
            · exact hno d' e2 q1 (by omega) q3
    rcases this (c - g) (by omega) with ⟨d, q1, q2, q3, q4⟩ | hno
    · exact ⟨d, q1, by omega, q3, .inr q4⟩
    · exact ⟨c, hgc, Nat.le_refl _, fun d' e' q1 q2 => hno d' e' q1 (by omega), .inl rfl⟩
  obtain ⟨d, d1, d2, d3, d4⟩ := first
  have hld : ldA (ev (t c)) (h d) e.o.op = some (v c) := by
    by_cases hdc : d = c
    · subst hdc; exact hl
    · rcases d4 with d4 | ⟨e', he', h3⟩
      · exact absurd d4 hdc
      · obtain ⟨r, r1, r2⟩ := snaps R.tr c (by omega) d e' (by omega) he' h3
        refine lookBack_spec hlb r (h d) ?_ r2
        rcases Nat.lt_or_ge r e.k with q | q
        · exact q
        · exfalso
          have hal := okAll_load E [] [] R.all c e hn.at_ h1
          rw [List.append_nil] at hal
          have hmem : e' ∈ (acc3 E c).drop e.k := List.mem_of_getElem? (i := r - e.k) (by rw [List.getElem?_drop, show e.k + (r - e.k) = r by omega]; exact r1)
          have hb := List.all_eq_true.1 hal e' hmem
          have := I.g3 d e' he' h3 (by rw [dn_of he']; exact hn.anc _ hb)
          omega
  rw [← ldA_congr hT] at hld
  refine ld_mapped (evs_of I.temps hG) hok.op hld fun id k hρ q => ?_
  rw [I.heap]
  rcases (R.range I.out d d1 (by omega) d3 id k).1 q with q | ⟨d', q1, q2, q3⟩
  · exact .inl q
  · refine .inr ⟨d', q1, by omega, ?_, q3⟩
    obtain ⟨_, rfl, qx⟩ := q3.lt
    have l0 := R.le (c := 0) (d := d') (by omega) (by omega)
    have l1 := R.le (c := d' + 1) (d := E.length) (by omega) (Nat.le_refl _)
    obtain ⟨c', c1, c2, c3, c4⟩ := I.names (x d') (hF _ l0 (by omega)) hρ
    rcases Nat.lt_trichotomy c' d' with z | z | z
    · have := R.le (c := c' + 1) (d := d') (by omega) (by omega); omega
    · subst z; exact c2
    · have := R.le (c := d' + 1) (d := c') (by omega) (by omega); omega
end
end Go.Abs
