/- The abstract interpreter, part T: for regions whose order is open: what an operation looks at; two runs side by side. -/
import Derived.Test.YteofddgoedkhcaaGreatDoorAbsS
namespace Go.Abs

theorem samePos_eq : ∀ {p q : Pos}, same1.samePos p q = true → p = q
  | .h, .h, _ => rfl
  | .o p, .o q, h => by rw [samePos_eq (p := p) (q := q) h]
  | .i p, .i q, h => by rw [samePos_eq (p := p) (q := q) h]
  | .h, .o _, h => by cases h
  | .h, .i _, h => by cases h
  | .o _, .h, h => by cases h
  | .o _, .i _, h => by cases h
  | .i _, .h, h => by cases h
  | .i _, .o _, h => by cases h

theorem samePos_refl : ∀ p : Pos, same1.samePos p p = true
  | .h => rfl
  | .o p => samePos_refl p
  | .i p => samePos_refl p

theorem same1_eq {a b : AV} (h : same1 a b = true) : a = b := by
  unfold same1 at h
  split at h <;> first
    | rfl
    | (simp at h; rw [h]; done)
    | (simp at h; obtain ⟨rfl, rfl⟩ := h; rfl)
    | (simp at h; obtain ⟨rfl, rfl, rfl⟩ := h; rfl)
    | (rw [beqN_eq] at h; rw [of_decide_eq_true h])
    | (simp only [Bool.and_eq_true] at h; obtain ⟨h1, h2⟩ := h; rw [samePos_eq h1, Nat.eq_of_beq_eq_true h2])
    | (simp only [Bool.and_eq_true] at h; obtain ⟨⟨⟨⟨⟨h1, h2⟩, h3⟩, h4⟩, h5⟩, h6⟩ := h; rw [samePos_eq h1, Nat.eq_of_beq_eq_true h2, Nat.eq_of_beq_eq_true h3, eq_of_beq h4, Nat.eq_of_beq_eq_true h5, Nat.eq_of_beq_eq_true h6])
    | (rw [Nat.eq_of_beq_eq_true h])
    | cases h

theorem sameL_eq : ∀ {a b : List AV}, sameL a b = true → a = b
  | [], [], _ => rfl
  | x :: a, y :: b, h => by
    simp only [sameL, Bool.and_eq_true] at h
    rw [same1_eq h.1, sameL_eq h.2]
  | [], _ :: _, h => by cases h
  | _ :: _, [], h => by cases h

theorem same_eq {a b : AV} (h : same a b = true) : a = b := by
  unfold same at h
  split at h
  · rw [sameL_eq h]
  · exact same1_eq h

/-! ### What an operation looks at -/
section
variable {T T' : PT AV}

theorem ev_congr {x : AX} (h : ∀ p ∈ x.tm, PT.get p T = PT.get p T') : ev T x = ev T' x := by
  cases x with
  | t p => simp only [ev, h p (by simp [AX.tm])]
  | c v => rfl

theorem evs_congr {xs : List AX} (h : ∀ p ∈ xs.flatMap AX.tm, PT.get p T = PT.get p T') : xs.map (ev T) = xs.map (ev T') :=
  List.map_congr_left fun x hx => ev_congr fun p hp => h p (List.mem_flatMap.2 ⟨x, hx, hp⟩)

theorem evo_congr {x : Option AX} (h : ∀ p ∈ otm x, PT.get p T = PT.get p T') : x.map (ev T) = x.map (ev T') := by
  cases x with
  | none => rfl
  | some x => simp only [Option.map_some, ev_congr (x := x) h]

theorem fillA_congr : ∀ {ps : List (Nat × Nat × AX)} {z : List AV}, (∀ p ∈ ps.flatMap (fun q => q.2.2.tm), PT.get p T = PT.get p T') → fillA (ev T) ps z = fillA (ev T') ps z
  | [], z, _ => rfl
  | (off, n, x) :: ps, z, h => by
    have h1 : ev T x = ev T' x := ev_congr fun p hp => h p (by simp [hp])
    have h2 : ∀ z, fillA (ev T) ps z = fillA (ev T') ps z := fun z => fillA_congr fun p hp => h p (by rw [List.flatMap_cons]; exact List.mem_append_right _ hp)
    simp only [fillA, h1, h2]

theorem opA_congr {cf : CallR} {yf : YieldR} {H : AHeap} {nx : Pos} {op : AOp} (h : ∀ p ∈ op.tms, PT.get p T = PT.get p T') : opA cf yf (ev T) H nx op = opA cf yf (ev T') H nx op := by
  have q1 : ∀ {x : AX}, (∀ p ∈ x.tm, p ∈ op.tms) → ev T x = ev T' x := fun hx => ev_congr fun p hp => h p (hx p hp)
  have q2 : ∀ {xs : List AX}, (∀ p ∈ xs.flatMap AX.tm, p ∈ op.tms) → xs.map (ev T) = xs.map (ev T') := fun hx => evs_congr fun p hp => h p (hx p hp)
  have q3 : ∀ {x : Option AX}, (∀ p ∈ otm x, p ∈ op.tms) → x.map (ev T) = x.map (ev T') := fun hx => evo_congr fun p hp => h p (hx p hp)
  have q4 : ∀ {ps : List (Nat × Nat × AX)} {z : List AV}, (∀ p ∈ ps.flatMap (fun q => q.2.2.tm), p ∈ op.tms) → fillA (ev T) ps z = fillA (ev T') ps z := fun hx => fillA_congr fun p hp => h p (hx p hp)
  cases op <;> simp only [opA, puA, ldA, alA, stA]
  case mov x => rw [q1 (x := x) (fun p hp => by simp [AOp.tms, hp])]
  case pick c a b => rw [q1 (x := c) (fun p hp => by simp [AOp.tms, hp]), q1 (x := a) (fun p hp => by simp [AOp.tms, hp]), q1 (x := b) (fun p hp => by simp [AOp.tms, hp])]
  case box x => rw [q1 (x := x) (fun p hp => by simp [AOp.tms, hp])]
  case build z ps => rw [q4 (ps := ps) (fun p hp => by simpa [AOp.tms] using hp)]
  case mksl z l es ps => rw [q4 (ps := ps) (fun p hp => by simpa [AOp.tms] using hp)]
  case load ag n a => rw [q1 (x := a) (fun p hp => by simp [AOp.tms, hp])]
  case store n a x => rw [q1 (x := a) (fun p hp => by simp [AOp.tms, hp]), q1 (x := x) (fun p hp => by simp [AOp.tms, hp])]
  case nilchk x => rw [q1 (x := x) (fun p hp => by simp [AOp.tms, hp])]
  case bin o ek ks x y => rw [q1 (x := x) (fun p hp => by simp [AOp.tms, hp]), q1 (x := y) (fun p hp => by simp [AOp.tms, hp])]
  case un o x => rw [q1 (x := x) (fun p hp => by simp [AOp.tms, hp])]
  case cvi k x => rw [q1 (x := x) (fun p hp => by simp [AOp.tms, hp])]
  case cvs x => rw [q1 (x := x) (fun p hp => by simp [AOp.tms, hp])]
  case s2b x => rw [q1 (x := x) (fun p hp => by simp [AOp.tms, hp])]
  case b2s x => rw [q1 (x := x) (fun p hp => by simp [AOp.tms, hp])]
  case mkif t x => rw [q1 (x := x) (fun p hp => by simp [AOp.tms, hp])]
  case mkfn f fs cs => rw [q2 (xs := fs) (fun p hp => by simp only [AOp.tms]; exact List.mem_append_left _ hp), q2 (xs := cs) (fun p hp => by simp only [AOp.tms]; exact List.mem_append_right _ hp)]
  case slS n x lo hi => rw [q1 (x := x) (fun p hp => by simp [AOp.tms, hp]), q3 (x := lo) (fun p hp => by simp [AOp.tms, hp]), q3 (x := hi) (fun p hp => by simp [AOp.tms, hp])]
  case slStr x lo hi => rw [q1 (x := x) (fun p hp => by simp [AOp.tms, hp]), q3 (x := lo) (fun p hp => by simp [AOp.tms, hp]), q3 (x := hi) (fun p hp => by simp [AOp.tms, hp])]
  case slA l n x lo hi => rw [q1 (x := x) (fun p hp => by simp [AOp.tms, hp]), q3 (x := lo) (fun p hp => by simp [AOp.tms, hp]), q3 (x := hi) (fun p hp => by simp [AOp.tms, hp])]
  case fadr o x => rw [q1 (x := x) (fun p hp => by simp [AOp.tms, hp])]
  case fld ag o n x => rw [q1 (x := x) (fun p hp => by simp [AOp.tms, hp])]
  case ixS n x i => rw [q1 (x := x) (fun p hp => by simp [AOp.tms, hp]), q1 (x := i) (fun p hp => by simp [AOp.tms, hp])]
  case ixA l n x i => rw [q1 (x := x) (fun p hp => by simp [AOp.tms, hp]), q1 (x := i) (fun p hp => by simp [AOp.tms, hp])]
  case ixv ag l n x i => rw [q1 (x := x) (fun p hp => by simp [AOp.tms, hp]), q1 (x := i) (fun p hp => by simp [AOp.tms, hp])]
  case ixstr x i => rw [q1 (x := x) (fun p hp => by simp [AOp.tms, hp]), q1 (x := i) (fun p hp => by simp [AOp.tms, hp])]
  case extr i x => rw [q1 (x := x) (fun p hp => by simp [AOp.tms, hp])]
  case call g args => rw [q1 (x := g) (fun p hp => by simp [AOp.tms, hp]), q2 (xs := args) (fun p hp => by simp only [AOp.tms]; exact List.mem_append_right _ hp)]
  case len k x => rw [q1 (x := x) (fun p hp => by simp [AOp.tms, hp])]
  case cap x => rw [q1 (x := x) (fun p hp => by simp [AOp.tms, hp])]
  case app n b s x => rw [q1 (x := s) (fun p hp => by simp [AOp.tms, hp]), q1 (x := x) (fun p hp => by simp [AOp.tms, hp])]

theorem wantA_congr {g : Option (Pos × Bool)} (h : ∀ p w, g = some (p, w) → PT.get p T = PT.get p T') : wantA T g = wantA T' g := by
  cases g with
  | none => rfl
  | some q => obtain ⟨p, w⟩ := q; simp only [wantA, h p w rfl]
end

/-! ### Loads, in a heap that knows the names in use -/
theorem ld_mapped {P : Program} {gs : List Nat} {ρ : Env} {e : AX → AV} {η : Operand → Value} {o : Oper} {ao : AOp} {S H : AHeap} {v : AV} (hE : Evs gs ρ e η) (hc : cop P gs o = some ao) (hp : ldA e S ao = some v)
    (hm : ∀ id k, ρ id ≠ none → PT.get id S = some k → PT.get id H = some k) : ldA e H ao = some v := by
  have hp0 := hp
  unfold ldA at hp
  split at hp
  · rename_i ag n a
    obtain ⟨t, x, ho, h1, h2, h3⟩ := cop_load hc
    have rx := hE _ _ h3
    split at hp
    · rename_i id off hex
      rw [hex] at rx
      simp only [Rel] at rx
      obtain ⟨b, o', m, r1, r2⟩ := rx
      split at hp
      · rename_i ro l hg
        have hg' := hm id _ (by rw [r1]; simp) hg
        simp only [ldA, hex, hg'] at hp0 ⊢
        simp only [hg] at hp0
        exact hp0
      · cases hp
    · cases hp
  · rename_i len s ax al ah
    obtain ⟨t, x, lo, hi, el, ho, hu, hs, h1, h2, h3⟩ := cop_slA hc
    have rx := hE _ _ h1
    split at hp
    · rename_i id off hex
      rw [hex] at rx
      simp only [Rel] at rx
      obtain ⟨b, o', m, r1, r2⟩ := rx
      split at hp
      · rename_i ro l hg
        have hg' := hm id _ (by rw [r1]; simp) hg
        simp only [ldA, hex, hg'] at hp0 ⊢
        simp only [hg] at hp0
        exact hp0
      · cases hp
    · cases hp
  · rename_i ax
    obtain ⟨src, dst, x, el, ho, hs, hd, he, hx⟩ := cop_b2s hc
    have rx := hE _ _ hx
    split at hp
    · rename_i hex
      simp only [ldA, hex] at hp0 ⊢
      exact hp0
    · rename_i id off len ex cap es hex
      rw [hex] at rx
      simp only [Rel] at rx
      obtain ⟨b, o', m, c, r1, r2⟩ := rx
      split at hp
      · rename_i he1
        split at hp
        · rename_i ro l hg
          have hg' := hm id _ (by rw [r1]; simp) hg
          simp only [ldA, hex, hg'] at hp0 ⊢
          simp only [hg] at hp0
          exact hp0
        · cases hp
      · cases hp
    · cases hp
  · cases hp

end Go.Abs
