/- The abstract interpreter, part F: binary operations, aggregates, slices. -/
import Derived.Test.YteofddgoedkhcaaGreatDoorAbsE
namespace Go.Abs
section
variable {P : Program} {ρ : Env}

/-- No nil interface, no aggregate. -/
def plainV : Value → Bool
  | .nilIface => false
  | .agg _ => false
  | _ => true

section
variable (d : Nat) (t : TypeId) (w : World)
theorem eq0_bool (a b : Bool) (h : P.underlying t = some .bool) : (Op.equalIn (d + 1) t (.bool a) (.bool b)).run P w = .ok (a == b) w := by simp [Op.equalIn, run_underlying h]
theorem eq0_sl_nil (e : TypeId) (a : Addr) (l c : Nat) (h : P.underlying t = some (.slice e)) : (Op.equalIn (d + 1) t (.slice (some a) l c) (.slice none 0 0)).run P w = .ok false w := by simp [Op.equalIn, run_underlying h]
theorem eq0_nil_sl (e : TypeId) (a : Addr) (l c : Nat) (h : P.underlying t = some (.slice e)) : (Op.equalIn (d + 1) t (.slice none 0 0) (.slice (some a) l c)).run P w = .ok false w := by simp [Op.equalIn, run_underlying h]
theorem eq0_nil_nil (e : TypeId) (h : P.underlying t = some (.slice e)) : (Op.equalIn (d + 1) t (.slice none 0 0) (.slice none 0 0)).run P w = .ok true w := by simp [Op.equalIn, run_underlying h]
theorem eq0_p_nil (e : TypeId) (a : Addr) (h : P.underlying t = some (.pointer e)) : (Op.equalIn (d + 1) t (.pointer (some a)) (.pointer none)).run P w = .ok false w := by simp [Op.equalIn, run_underlying h]
theorem eq0_nil_p (e : TypeId) (a : Addr) (h : P.underlying t = some (.pointer e)) : (Op.equalIn (d + 1) t (.pointer none) (.pointer (some a))).run P w = .ok false w := by simp [Op.equalIn, run_underlying h]
theorem eq0_nilp (e : TypeId) (h : P.underlying t = some (.pointer e)) : (Op.equalIn (d + 1) t (.pointer none) (.pointer none)).run P w = .ok true w := by simp [Op.equalIn, run_underlying h]
theorem eq0_f_nil (a b : Array TypeId) (c : Bool) (f : Fn) (x y : Array Value) (h : P.underlying t = some (.func a b c)) : (Op.equalIn (d + 1) t (.func f x y) .nilFunc).run P w = .ok false w := by simp [Op.equalIn, run_underlying h]
theorem eq0_nil_f (a b : Array TypeId) (c : Bool) (f : Fn) (x y : Array Value) (h : P.underlying t = some (.func a b c)) : (Op.equalIn (d + 1) t .nilFunc (.func f x y)).run P w = .ok false w := by simp [Op.equalIn, run_underlying h]
theorem eq0_nilf (a b : Array TypeId) (c : Bool) (h : P.underlying t = some (.func a b c)) : (Op.equalIn (d + 1) t .nilFunc .nilFunc).run P w = .ok true w := by simp [Op.equalIn, run_underlying h]
end

theorem eqk_bool {t : TypeId} (h : eqkOf P t = .bool) : P.underlying t = some .bool := by
  unfold eqkOf at h; split at h <;> first | assumption | cases h
theorem eqk_slice {t : TypeId} (h : eqkOf P t = .slice) : ∃ e, P.underlying t = some (.slice e) := by
  unfold eqkOf at h; split at h <;> first | exact ⟨_, by assumption⟩ | cases h
theorem eqk_ptr {t : TypeId} (h : eqkOf P t = .ptr) : ∃ e, P.underlying t = some (.pointer e) := by
  unfold eqkOf at h; split at h <;> first | exact ⟨_, by assumption⟩ | cases h
theorem eqk_fn {t : TypeId} (h : eqkOf P t = .fn) : ∃ a b c, P.underlying t = some (.func a b c) := by
  unfold eqkOf at h; split at h <;> first | exact ⟨_, _, _, by assumption⟩ | cases h

theorem guard_free (op : BinOp) (t : TypeId) (o1 o2 : Operand) (x y : Value) (h : plainV x = true) : eqGuard op t o1 o2 x y = pure () := by
  cases x <;> simp [plainV] at h <;> cases op <;> rfl

theorem run_bin {op : BinOp} {t : TypeId} {x y v : AV} {vx vy : Value} (h : binA op (eqkOf P t) (eqsOf P t) x y = some v) (rx : Rel ρ x vx) (ry : Rel ρ y vy) (o1 o2 : Operand) :
    ∃ v', (∀ w, (do eqGuard op t o1 o2 vx vy; binOp op t vx vy : Sem Value).run P w = .ok v' w) ∧ Rel ρ v v' := by
  have free : ∀ {q : Prop}, plainV vx = true → (∃ v', (∀ w, (binOp op t vx vy).run P w = .ok v' w) ∧ Rel ρ v v') →
      ∃ v', (∀ w, (do eqGuard op t o1 o2 vx vy; binOp op t vx vy : Sem Value).run P w = .ok v' w) ∧ Rel ρ v v' := by
    intro _ hf hx
    obtain ⟨v', h1, h2⟩ := hx
    exact ⟨v', fun w => by rw [guard_free op t o1 o2 vx vy hf]; simp [h1], h2⟩
  unfold binA at h
  split at h
  · -- int
    rename_i k a
    simp only [Rel] at rx; subst rx
    refine free (q := True) rfl ?_
    split at h
    · simp only [Rel] at ry; subst ry
      exact run_binI h t
    · split at h
      · rename_i hk
        subst hk
        simp only [Rel] at ry
        obtain ⟨n, h1, h2, rfl⟩ := ry
        exact run_bin_rng h (Int.le_refl _) (Int.le_refl _) h1 h2 t
      · cases h
    · cases h
  · -- rng
    rename_i k a b
    simp only [Rel] at rx
    obtain ⟨m, h1, h2, rfl⟩ := rx
    refine free (q := True) rfl ?_
    split at h
    · split at h
      · rename_i hk
        subst hk
        simp only [Rel] at ry; subst ry
        exact run_bin_rng h h1 h2 (Int.le_refl _) (Int.le_refl _) t
      · cases h
    · split at h
      · rename_i hk
        subst hk
        simp only [Rel] at ry
        obtain ⟨n, h3, h4, rfl⟩ := ry
        exact run_bin_rng h h1 h2 h3 h4 t
      · cases h
    · cases h
  · -- str
    rename_i l
    simp only [Rel] at rx
    obtain ⟨s, rfl, hs⟩ := rx
    refine free (q := True) rfl ?_
    split at h
    · rename_i m
      simp only [Rel] at ry
      obtain ⟨u, rfl, hu⟩ := ry
      cases op <;> simp only [cmpS, reduceCtorEq, mkBool_eq, Option.some.injEq] at h
      · split at h
        · rename_i hle
          simp at h; subst h
          refine ⟨.string (s ++ u), fun w => ?_, ?_⟩
          · rw [binOp_string_add]
            exact run_string_add_sum w s u (by rw [str_size hs, str_size hu]; exact hle)
          · simp only [Rel]
            exact ⟨_, rfl, by simp [hs, hu]⟩
        · cases h
      · subst h
        exact ⟨_, fun w => by rw [binOp_string_eql]; rfl, by simp [Rel, str_beq hs hu]⟩
      · subst h
        exact ⟨_, fun w => by rw [binOp_string_neq]; rfl, by simp [Rel, str_beq hs hu]⟩
    · cases h
  · -- bool
    rename_i a
    simp only [Rel] at rx; subst rx
    refine free (q := True) rfl ?_
    split at h
    · rename_i b
      have hk : eqkOf P t = .bool := by assumption
      simp only [Rel] at ry; subst ry
      have hu := eqk_bool hk
      exact run_eqB h (fun w => eq0_bool _ _ w _ _ hu) (by simp [binOp]) (by simp [binOp])
    · cases h
  · -- sl
    simp only [Rel] at rx
    obtain ⟨b, o, m, c, _, _, _, _, rfl⟩ := rx
    refine free (q := True) rfl ?_
    split at h
    · have hk : eqkOf P t = .slice := by assumption
      simp only [Rel] at ry; subst ry
      obtain ⟨e, hu⟩ := eqk_slice hk
      exact run_eqB h (fun w => eq0_sl_nil _ _ w _ _ _ _ hu) (by simp [binOp]) (by simp [binOp])
    · cases h
  · -- nilsl
    simp only [Rel] at rx; subst rx
    refine free (q := True) rfl ?_
    split at h
    · have hk : eqkOf P t = .slice := by assumption
      simp only [Rel] at ry; subst ry
      obtain ⟨e, hu⟩ := eqk_slice hk
      exact run_eqB h (fun w => eq0_nil_nil _ _ w _ hu) (by simp [binOp]) (by simp [binOp])
    · have hk : eqkOf P t = .slice := by assumption
      simp only [Rel] at ry
      obtain ⟨b, o, m, c, _, _, _, _, rfl⟩ := ry
      obtain ⟨e, hu⟩ := eqk_slice hk
      exact run_eqB h (fun w => eq0_nil_sl _ _ w _ _ _ _ hu) (by simp [binOp]) (by simp [binOp])
    · cases h
  · -- ptr
    simp only [Rel] at rx
    obtain ⟨b, o, m, _, rfl⟩ := rx
    refine free (q := True) rfl ?_
    split at h
    · have hk : eqkOf P t = .ptr := by assumption
      simp only [Rel] at ry; subst ry
      obtain ⟨e, hu⟩ := eqk_ptr hk
      exact run_eqB h (fun w => eq0_p_nil _ _ w _ _ hu) (by simp [binOp]) (by simp [binOp])
    · cases h
  · -- nilp
    simp only [Rel] at rx; subst rx
    refine free (q := True) rfl ?_
    split at h
    · have hk : eqkOf P t = .ptr := by assumption
      simp only [Rel] at ry; subst ry
      obtain ⟨e, hu⟩ := eqk_ptr hk
      exact run_eqB h (fun w => eq0_nilp _ _ w _ hu) (by simp [binOp]) (by simp [binOp])
    · have hk : eqkOf P t = .ptr := by assumption
      simp only [Rel] at ry
      obtain ⟨b, o, m, _, rfl⟩ := ry
      obtain ⟨e, hu⟩ := eqk_ptr hk
      exact run_eqB h (fun w => eq0_nil_p _ _ w _ _ hu) (by simp [binOp]) (by simp [binOp])
    · cases h
  · -- fn
    simp only [Rel] at rx
    obtain ⟨fs, cs, rfl, _, _⟩ := rx
    refine free (q := True) rfl ?_
    split at h
    · have hk : eqkOf P t = .fn := by assumption
      simp only [Rel] at ry; subst ry
      obtain ⟨a, b, c, hu⟩ := eqk_fn hk
      exact run_eqB h (fun w => eq0_f_nil _ _ w _ _ _ _ _ _ hu) (by simp [binOp]) (by simp [binOp])
    · cases h
  · -- nilfn
    simp only [Rel] at rx; subst rx
    refine free (q := True) rfl ?_
    split at h
    · have hk : eqkOf P t = .fn := by assumption
      simp only [Rel] at ry; subst ry
      obtain ⟨a, b, c, hu⟩ := eqk_fn hk
      exact run_eqB h (fun w => eq0_nilf _ _ w _ _ _ hu) (by simp [binOp]) (by simp [binOp])
    · have hk : eqkOf P t = .fn := by assumption
      simp only [Rel] at ry
      obtain ⟨fs, cs, rfl, _, _⟩ := ry
      obtain ⟨a, b, c, hu⟩ := eqk_fn hk
      exact run_eqB h (fun w => eq0_nil_f _ _ w _ _ _ _ _ _ hu) (by simp [binOp]) (by simp [binOp])
    · cases h
  · -- agg
    rename_i l
    simp only [Rel] at rx
    obtain ⟨cx, rfl, rx⟩ := rx
    split at h
    · cases h
    · rename_i k ks m hks
      simp only [Rel] at ry
      obtain ⟨cy, rfl, ry⟩ := ry
      split at h
      · rename_i r hr
        unfold eqsOf at hks
        split at hks
        · rename_i hag
          split at hks
          · cases hks
          · rename_i hgt
            have hgt' : P.eqGuardType P.depth t = false := by simpa using hgt
            cases hT : eqT P 20 t with
            | none => rw [hT] at hks; simp at hks
            | some ks' =>
              rw [hT] at hks; simp at hks; subst hks
              have key : ∀ w, (Op.equalIn 10000 t (.agg cx) (.agg cy)).run P w = .ok r w := fun w =>
                eqT_sound 20 t _ hT 10000 (by omega) _ _ cx.toList cy.toList l m r w (Or.inl ⟨hag, by simp⟩) (Or.inl ⟨hag, by simp⟩) rx ry hr
              rcases eqB_some h with ⟨rfl, rfl⟩ | ⟨rfl, rfl⟩
              · refine ⟨.bool r, fun w => ?_, by simp [Rel]⟩
                rw [Sem.run_bind, run_eqGuard_agg w .eql t o1 o2 cx cy hgt']
                rw [Result.andThen_ok, run_eql_struct, key w]; rfl
              · refine ⟨.bool (!r), fun w => ?_, by simp [Rel]⟩
                rw [Sem.run_bind, run_eqGuard_agg w .neq t o1 o2 cx cy hgt']
                rw [Result.andThen_ok, run_neq_struct, key w]; rfl
        · cases hks
      · cases h
    · cases h
  · cases h

/-! ### Unary operations and conversions -/
def unA (op : UnOp) (x : AV) : Option AV :=
  match op, x with
  | .neg, .int k n => mkInt k (k.wrap (0 - n))
  | .neg, .rng k lo hi => mkRng k (0 - hi) (0 - lo)
  | .xor, .int k n => mkInt k (bits .xor k (if k.signed then -1 else k.max) n)
  | .not, .bool b => mkBool (!b)
  | _, _ => none

theorem run_un {op : UnOp} {x v : AV} {vx : Value} (h : unA op x = some v) (rx : Rel ρ x vx) : ∃ v', (∀ w, (Op.unary op vx).run P w = .ok v' w) ∧ Rel ρ v v' := by
  unfold unA at h
  split at h
  · rw [mkInt_eq] at h; simp at h; subst h
    simp only [Rel] at rx; subst rx
    exact ⟨_, fun w => by simp [Op.unary, Op.intArith]; rfl, by simp [Rel]⟩
  · rename_i k lo hi
    obtain ⟨rfl, e1, e2⟩ := mkRng_some h
    simp only [Rel] at rx
    obtain ⟨n, h1, h2, rfl⟩ := rx
    refine ⟨_, fun w => by simp [Op.unary, Op.intArith]; rfl, ?_⟩
    rw [show -n = 0 - n by omega, wrap_in (by omega) (by omega)]
    simp only [Rel]
    exact ⟨_, by omega, by omega, rfl⟩
  · rw [mkInt_eq] at h; simp at h; subst h
    simp only [Rel] at rx; subst rx
    exact ⟨_, fun w => by simp only [Op.unary, intBits_xor]; rfl, by simp [Rel]⟩
  · rw [mkBool_eq] at h; simp at h; subst h
    simp only [Rel] at rx; subst rx
    exact ⟨_, fun w => by simp [Op.unary]; rfl, by simp [Rel]⟩
  · cases h

def cvI (k : IntKind) (x : AV) : Option AV :=
  match x with
  | .int _ n => mkInt k (k.wrap n)
  | .rng _ lo hi => mkRng k lo hi
  | _ => none

theorem run_cvI {src dst : TypeId} {k : IntKind} {x v : AV} {vx : Value} (hs : (P.underlying src).isSome = true) (hd : P.underlying dst = some (.int k)) (h : cvI k x = some v) (rx : Rel ρ x vx) :
    ∃ v', (∀ w, (convert src dst vx).run P w = .ok v' w) ∧ Rel ρ v v' := by
  obtain ⟨d, hd'⟩ := Option.isSome_iff_exists.1 hs
  unfold cvI at h
  split at h
  · rw [mkInt_eq] at h; simp at h; subst h
    simp only [Rel] at rx; subst rx
    exact ⟨_, fun w => by simp [convert, run_underlying hd', run_underlying hd, Conv.intToInt]; rfl, by simp [Rel]⟩
  · obtain ⟨rfl, e1, e2⟩ := mkRng_some h
    simp only [Rel] at rx
    obtain ⟨n, h1, h2, rfl⟩ := rx
    refine ⟨_, fun w => by simp [convert, run_underlying hd', run_underlying hd, Conv.intToInt]; rfl, ?_⟩
    rw [wrap_in (by omega) (by omega)]
    simp only [Rel]
    exact ⟨_, by omega, by omega, rfl⟩
  · cases h

def cvS (x : AV) : Option AV :=
  match x with
  | .str l => some (.str l)
  | .anys m => some (.anys m)
  | _ => none

theorem run_cvS {src dst : TypeId} {x v : AV} {vx : Value} (hs : P.underlying src = some .string) (hd : P.underlying dst = some .string) (h : cvS x = some v) (rx : Rel ρ x vx) :
    ∃ v', (∀ w, (convert src dst vx).run P w = .ok v' w) ∧ Rel ρ v v' := by
  unfold cvS at h
  split at h
  · simp at h; subst h
    have rx' := rx
    simp only [Rel] at rx
    obtain ⟨s, rfl, hs'⟩ := rx
    exact ⟨_, fun w => by simp [convert, run_underlying hs, run_underlying hd], rx'⟩
  · simp at h; subst h
    have rx' := rx
    simp only [Rel] at rx
    obtain ⟨s, rfl, hs'⟩ := rx
    exact ⟨_, fun w => by simp [convert, run_underlying hs, run_underlying hd], rx'⟩
  · cases h
end
end Go.Abs
