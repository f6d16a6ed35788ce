/- The abstract interpreter, part W: operations by their sorts; temporaries that only some have written. -/
import Derived.Test.YteofddgoedkhcaaGreatDoorAbsV
namespace Go.Abs

theorem opA_sort0 {cf : CallR} {yf : YieldR} {e : AX → AV} {H : AHeap} {nx : Pos} {op : AOp} {u : AV} {H' : AHeap} {nx' : Pos} (hs : op.sort = 0) (h : opA cf yf e H nx op = some (u, H', nx')) :
    H' = H ∧ nx' = nx ∧ ∀ H2, opA cf yf e H2 nx op = some (u, H2, nx) := by
  cases op <;> first
    | (simp [AOp.sort] at hs; done)
    | (simp only [opA] at h ⊢
       split at h
       · rename_i w hw
         simp only [Option.some.injEq, Prod.mk.injEq] at h
         obtain ⟨rfl, rfl, rfl⟩ := h
         exact ⟨rfl, rfl, fun _ => by first | rfl | rw [hw]⟩
       · cases h)

theorem opA_sort1 {cf : CallR} {yf : YieldR} {e : AX → AV} {H : AHeap} {nx : Pos} {op : AOp} {u : AV} {H' : AHeap} {nx' : Pos} (hs : op.sort = 1) (h : opA cf yf e H nx op = some (u, H', nx')) :
    H' = H ∧ nx' = nx ∧ ldA e H op = some u ∧ ∀ H2 u2, ldA e H2 op = some u2 → opA cf yf e H2 nx op = some (u2, H2, nx) := by
  cases op <;> first
    | (simp [AOp.sort] at hs; done)
    | (simp only [opA] at h ⊢
       split at h
       · rename_i w hw
         simp only [Option.some.injEq, Prod.mk.injEq] at h
         obtain ⟨rfl, rfl, rfl⟩ := h
         exact ⟨rfl, rfl, hw, fun _ _ q => by first | rw [q] | simp [q]⟩
       · cases h)

theorem opA_sort2 {cf : CallR} {yf : YieldR} {e : AX → AV} {H : AHeap} {nx : Pos} {op : AOp} {u : AV} {H' : AHeap} {nx' : Pos} (hs : op.sort = 2) (h : opA cf yf e H nx op = some (u, H', nx')) :
    ∃ l, H' = PT.put nx (some (.cells false l)) H ∧ nx' = nx.succ ∧ ∀ H2, opA cf yf e H2 nx op = some (u, PT.put nx (some (.cells false l)) H2, nx.succ) := by
  cases op <;> first
    | (simp [AOp.sort] at hs; done)
    | (simp only [opA] at h ⊢
       simp only [Option.some.injEq, Prod.mk.injEq] at h
       obtain ⟨rfl, rfl, rfl⟩ := h
       exact ⟨_, rfl, rfl, fun _ => rfl⟩)
    | (simp only [opA] at h ⊢
       split at h
       · rename_i l r hw
         simp only [Option.some.injEq, Prod.mk.injEq] at h
         obtain ⟨rfl, rfl, rfl⟩ := h
         exact ⟨l, rfl, rfl, fun _ => by first | rfl | rw [hw]⟩
       · cases h)

theorem sort_cases (op : AOp) : op.sort = 0 ∨ op.sort = 1 ∨ op.sort = 2 ∨ op.sort = 3 := by
  cases op <;> simp [AOp.sort]

theorem ldA_congr {T T' : PT AV} {H : AHeap} {op : AOp} (h : ∀ p ∈ op.tms, PT.get p T = PT.get p T') : ldA (ev T) H op = ldA (ev T') H op := by
  cases op <;> simp only [ldA]
  case load ag n a => rw [ev_congr (x := a) (fun p hp => h p (by simp [AOp.tms, hp]))]
  case slA l n x lo hi => rw [ev_congr (x := x) (fun p hp => h p (by simp [AOp.tms, hp])), evo_congr (x := lo) (fun p hp => h p (by simp [AOp.tms, hp])), evo_congr (x := hi) (fun p hp => h p (by simp [AOp.tms, hp]))]
  case b2s x => rw [ev_congr (x := x) (fun p hp => h p (by simp [AOp.tms, hp]))]

theorem get_putT (d : Option Pos) (u : AV) (T : PT AV) (p : Pos) : (d = some p ∧ PT.get p (putT d u T) = some u) ∨ (d ≠ some p ∧ PT.get p (putT d u T) = PT.get p T) := by
  cases d with
  | none => exact .inr ⟨by simp, rfl⟩
  | some q =>
    by_cases h : p = q
    · subst h; exact .inl ⟨rfl, PT.get_put_same _ _ _⟩
    · exact .inr ⟨by simpa using Ne.symm h, PT.get_put_other _ _ _ _ h⟩

theorem RelA.congr {ρ : Env} {T T' : PT AV} {tmps : Array Value} (h : ∀ p, PT.get p T = PT.get p T') (r : RelA ρ T tmps) : RelA ρ T' tmps := fun t => by
  have := r t
  simp only [evT, h] at this
  exact this

/-! ### Temporaries that only some have written -/
def fT (E : List Ent) (v : Nat → AV) (T0 : PT AV) (q : Nat → Bool) : Nat → PT AV
  | 0 => T0
  | m + 1 => match E[m]? with
    | some e => if q m then putT e.o.dst (v m) (fT E v T0 q m) else fT E v T0 q m
    | none => fT E v T0 q m

section
variable {E : List Ent} {v : Nat → AV} {T0 : PT AV}

theorem fT_congr {q q' : Nat → Bool} {p : Pos} : ∀ m, (∀ d e, d < m → E[d]? = some e → e.o.dst = some p → q d = q' d) → PT.get p (fT E v T0 q m) = PT.get p (fT E v T0 q' m)
  | 0, _ => rfl
  | m + 1, h => by
    have ih := fT_congr m (fun d e hd => h d e (by omega))
    simp only [fT]
    cases he : E[m]? with
    | none => exact ih
    | some e =>
      simp only
      by_cases hp : e.o.dst = some p
      · rw [h m e (by omega) he hp]
        cases q' m
        · exact ih
        · simp only [if_true]
          rcases get_putT e.o.dst (v m) (fT E v T0 q m) p with ⟨_, h1⟩ | ⟨h1, _⟩
          · rcases get_putT e.o.dst (v m) (fT E v T0 q' m) p with ⟨_, h2⟩ | ⟨h2, _⟩
            · rw [h1, h2]
            · exact absurd hp h2
          · exact absurd hp h1
      · have hq : ∀ (b : Bool) (T : PT AV), PT.get p (if b = true then putT e.o.dst (v m) T else T) = PT.get p T := by
          intro b T
          cases b
          · rfl
          · rcases get_putT e.o.dst (v m) T p with ⟨h1, _⟩ | ⟨_, h1⟩
            · exact absurd h1 hp
            · simpa using h1
        rw [hq, hq]; exact ih

theorem fT_put {q q' : Nat → Bool} {c : Nat} {e : Ent} (hc : E[c]? = some e) (h0 : q c = false) (h1 : q' c = true) (hq : ∀ d, d ≠ c → q' d = q d) (p : Pos)
    (hw : ∀ d e', c < d → E[d]? = some e' → e.o.dst = some p → e'.o.dst = some p → q d = false) : ∀ m, c < m → PT.get p (fT E v T0 q' m) = PT.get p (putT e.o.dst (v c) (fT E v T0 q m))
  | 0, h => by omega
  | m + 1, h => by
    by_cases hm : m = c
    · subst hm
      simp only [fT, hc, h0, h1, if_true, Bool.false_eq_true, if_false]
      have := fT_congr (E := E) (v := v) (T0 := T0) (q := q') (q' := q) (p := p) m (fun d e hd _ _ => hq d (by omega))
      rcases get_putT e.o.dst (v m) (fT E v T0 q' m) p with ⟨a1, a2⟩ | ⟨a1, a2⟩
      · rcases get_putT e.o.dst (v m) (fT E v T0 q m) p with ⟨_, b2⟩ | ⟨b1, _⟩
        · rw [a2, b2]
        · exact absurd a1 b1
      · rcases get_putT e.o.dst (v m) (fT E v T0 q m) p with ⟨b1, _⟩ | ⟨_, b2⟩
        · exact absurd b1 a1
        · rw [a2, b2]; exact this
    · have ih := fT_put hc h0 h1 hq p hw m (by omega)
      simp only [fT]
      cases he : E[m]? with
      | none => exact ih
      | some e' =>
        simp only [hq m hm]
        cases hqm : q m with
        | false => exact ih
        | true =>
          simp only [if_true]
          rcases get_putT e'.o.dst (v m) (fT E v T0 q' m) p with ⟨a1, a2⟩ | ⟨a1, a2⟩
          · rw [a2]
            rcases get_putT e.o.dst (v c) (putT e'.o.dst (v m) (fT E v T0 q m)) p with ⟨b1, b2⟩ | ⟨b1, b2⟩
            · have := hw m e' (by omega) he b1 a1
              rw [hqm] at this; cases this
            · rw [b2]
              rcases get_putT e'.o.dst (v m) (fT E v T0 q m) p with ⟨_, c2⟩ | ⟨c1, _⟩
              · rw [c2]
              · exact absurd a1 c1
          · rw [a2, ih]
            rcases get_putT e.o.dst (v c) (putT e'.o.dst (v m) (fT E v T0 q m)) p with ⟨b1, b2⟩ | ⟨b1, b2⟩
            · rcases get_putT e.o.dst (v c) (fT E v T0 q m) p with ⟨_, c2⟩ | ⟨c1, _⟩
              · rw [b2, c2]
              · exact absurd b1 c1
            · rcases get_putT e.o.dst (v c) (fT E v T0 q m) p with ⟨c1, _⟩ | ⟨_, c2⟩
              · exact absurd c1 b1
              · rw [b2, c2]
                rcases get_putT e'.o.dst (v m) (fT E v T0 q m) p with ⟨d1, _⟩ | ⟨_, d2⟩
                · exact absurd d1 a1
                · rw [d2]

variable {cf : CallR} {yf : YieldR} {t : Nat → PT AV} {h : Nat → AHeap} {x : Nat → Pos} {sn : Nat → List AHeap}

theorem fT_upto (tr : Tr cf yf (E.map fun e => (e.s, e.k, e.o)) t h x v sn) (q : Nat → Bool) : ∀ m, m ≤ E.length → (∀ d, d < m → q d = true) → fT E v (t 0) q m = t m
  | 0, _, _ => rfl
  | m + 1, hm, hq => by
    obtain ⟨e, he⟩ : ∃ e, E[m]? = some e := ⟨E[m], List.getElem?_eq_getElem (by omega)⟩
    have := tr.tmp m e.s e.k e.o (by simp [he])
    simp only [fT, he, hq m (by omega), if_true, fT_upto tr q m (by omega) (fun d hd => hq d (by omega)), this]

theorem fT_stay (q : Nat → Bool) (c : Nat) (hq : ∀ d, c ≤ d → q d = false) : ∀ m, c ≤ m → fT E v T0 q m = fT E v T0 q c
  | 0, hm => by have : c = 0 := by omega
                subst this; rfl
  | m + 1, hm => by
    by_cases hc : c = m + 1
    · subst hc; rfl
    · simp only [fT, hq m (by omega), Bool.false_eq_true, if_false]
      have := fT_stay q c hq m (by omega)
      split <;> exact this
end
end Go.Abs
