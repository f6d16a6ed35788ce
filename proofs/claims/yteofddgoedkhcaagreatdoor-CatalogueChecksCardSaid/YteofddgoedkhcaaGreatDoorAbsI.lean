/- The abstract interpreter, part I: the operations that touch no memory do what they are said to do. -/
import Derived.Test.YteofddgoedkhcaaGreatDoorAbsH
namespace Go.Abs
section
variable {P : Program} {ρ : Env} {gs : List Nat} {e : AX → AV} {η : Operand → Value}

theorem idx_some {x : AV} {n : Nat} {k : Nat → Option AV} {v : AV} (h : idx x n k = some v) : ∃ q i, x = .int q (.ofNat i) ∧ i < n ∧ k i = some v := by
  unfold idx at h
  split at h
  · split at h
    · exact ⟨_, _, rfl, by assumption, h⟩
    · cases h
  · cases h

theorem bnd_some {x : Option AV} {d n : Nat} (h : bnd x d = some n) : (x = none ∧ n = d) ∨ ∃ k, x = some (.int k (.ofNat n)) := by
  unfold bnd at h
  split at h
  · simp at h; exact .inl ⟨rfl, h.symm⟩
  · simp at h; subst h; exact .inr ⟨_, rfl⟩
  · cases h

/-- A bound of a slice, at its value. -/
theorem bound_run {lo : Option Operand} {alo : Option AX} {d n y : Nat} (hE : Evs gs ρ e η) (hc : coxo gs lo = some alo) (hb : bnd (alo.map e) d = some n) (hy : n ≤ y) (code : BoundsCode) (w : World) :
    (match lo.map η with | some v => Instr.sliceBound v y code | none => pure d).run P w = .ok n w := by
  cases lo with
  | none =>
    simp [coxo] at hc; subst hc
    rcases bnd_some hb with ⟨_, rfl⟩ | ⟨k, hk⟩
    · rfl
    · simp at hk
  | some x =>
    simp only [coxo, Option.map_eq_some_iff] at hc
    obtain ⟨ax, hax, rfl⟩ := hc
    rcases bnd_some hb with ⟨hk, _⟩ | ⟨k, hk⟩
    · simp at hk
    · simp at hk
      have hr := hE _ _ hax
      rw [hk] at hr
      simp only [Rel] at hr
      simp only [Option.map_some, hr]
      rw [run_sliceBound w k _ y code (by simp) (by simp; omega)]
      simp

theorem sliceBounds_run {lo hi : Option Operand} {alo ahi : Option AX} {len cap l h : Nat} (hE : Evs gs ρ e η) (h1 : coxo gs lo = some alo) (h2 : coxo gs hi = some ahi)
    (b1 : bnd (alo.map e) 0 = some l) (b2 : bnd (ahi.map e) len = some h) (hl : l ≤ h) (hh : h ≤ cap) (sl : Bool) (w : World) :
    (Instr.sliceBounds sl len cap (lo.map η) (hi.map η) none).run P w = .ok (l, h, cap) w := by
  have e1 : ∀ w, (match hi.map η with | some v => Instr.sliceBound v cap (if sl then .sliceAcap else .sliceAlen) | none => pure len : Sem Nat).run P w = .ok h w := fun w => bound_run hE h2 b2 hh _ w
  have e2 : ∀ w, (match lo.map η with | some v => Instr.sliceBound v h .sliceB | none => pure 0 : Sem Nat).run P w = .ok l w := fun w => bound_run hE h1 b1 hl _ w
  have e1' := e1 w
  have e2' := e2 w
  unfold Instr.sliceBounds
  cases hlo : lo.map η with
  | none =>
    rw [hlo] at e2'
    cases hhi : hi.map η with
    | none => rw [hhi] at e1'; simp at e1' e2' ⊢; omega
    | some v => rw [hhi] at e1'; simp at e1' e2' ⊢; rw [e1']; simp [e2']
  | some u =>
    rw [hlo] at e2'
    cases hhi : hi.map η with
    | none => rw [hhi] at e1'; simp at e1' e2' ⊢; subst e1'; rw [e2']; simp
    | some v => rw [hhi] at e1'; simp at e1' e2' ⊢; rw [e1']; simp [e2']

theorem fld_sound {ag : Bool} {off n : Nat} {x v : AV} {vx : Value} {t : TypeId} (h : fldA ag off n x = some v) (rx : Rel ρ x vx) (ha : agOf P t = some ag) (hs : szOf P t = some n) :
    ∃ cs : Array Value, vx = .agg cs ∧ ∃ v', (∀ w, (part t cs off).run P w = .ok v' w) ∧ Rel ρ v v' := by
  unfold fldA at h
  split at h
  · rename_i l
    simp only [Rel] at rx
    obtain ⟨cs, rfl, rx⟩ := rx
    refine ⟨cs, rfl, ?_⟩
    split at h
    · split at h
      · rename_i r hr
        simp at h; subst h
        obtain ⟨t1, t2⟩ := takeN_spec hr
        refine ⟨.agg (cs.extract off (off + n)), fun w => by simp [part, run_isAgg w ha, run_sizeOf w hs], ?_⟩
        simp only [Rel]
        refine ⟨_, rfl, ?_⟩
        rw [t1]
        have := (rx.drop off).take n
        simpa using this
      · cases h
    · rw [nthL_eq] at h
      obtain ⟨c, hc, hr⟩ := rx.get h
      refine ⟨c, fun w => ?_, hr⟩
      have : cs[off]? = some c := by simpa using hc
      simp [part, run_isAgg w ha, this]
  · cases h

theorem cfield_some {s : TypeId} {f n : Nat} {fl : Field} (h : cfield P s f = some (fl, n)) : ∃ fs, P.underlying s = some (.struct fs) ∧ fs[f]? = some fl ∧ szOf P fl.type = some n ∧ 0 < n := by
  unfold cfield at h
  split at h
  · rename_i fs hu
    split at h
    · rename_i fl' hf
      split at h
      · rename_i n' hn
        split at h
        · rename_i hp
          simp at h
          obtain ⟨rfl, rfl⟩ := h
          exact ⟨fs, hu, hf, hn, hp⟩
        · cases h
      · cases h
    · cases h
  · cases h

theorem mapM_fields {fs : List Field} {places : List (Nat × Nat)} (h : fs.mapM (fun f => (szOf P f.type).map fun n => (f.offset, n)) = some places) (w : World) :
    (fs.mapM (fun f => do pure (f.offset, ← sizeOf f.type) : Field → Sem (Nat × Nat))).run P w = .ok places w := by
  induction fs generalizing places with
  | nil => simp at h; subst h; simp
  | cons f fs ih =>
    simp only [List.mapM_cons, Option.bind_eq_bind, Option.bind_eq_some_iff, Option.map_eq_some_iff] at h
    obtain ⟨p, ⟨n, hn, rfl⟩, ps, hps, h⟩ := h
    simp at h; subst h
    simp only [List.mapM_cons, Sem.run_bind, run_sizeOf w hn, Result.andThen_ok, Sem.run_pure, ih hps]

theorem build_sound {t : TypeId} {parts : Array (Nat × Operand)} {ao : AOp} {v : AV} (hE : Evs gs ρ e η) (hc : cbuild P gs t parts.toList = some ao) (hp : puA e ao = some v) :
    ∃ v', (∀ w, (Instr.build t (parts.map fun (i, x) => (i, η x))).run P w = .ok v' w) ∧ Rel ρ v v' := by
  unfold cbuild at hc
  split at hc
  · rename_i fs z hu hz
    split at hc
    · rename_i places hpl
      simp only [Option.map_eq_some_iff] at hc
      obtain ⟨ps, hps, rfl⟩ := hc
      simp only [puA] at hp
      split at hp
      · rename_i l hl
        simp at hp; subst hp
        obtain ⟨zv, hzv, hzr⟩ := run_zeroValue (P := P) (ρ := ρ) hz
        obtain ⟨cs', hf, hr⟩ := fillA_sound hE _ _ _ _ _ _ hps hl hzr
        refine ⟨.agg cs', fun w => ?_, by simp only [Rel]; exact ⟨_, rfl, hr⟩⟩
        have hm := mapM_fields hpl w
        have hpl' : (fs.mapM (fun f => do pure (f.offset, ← sizeOf f.type) : Field → Sem (Nat × Nat))).run P w = .ok places.toArray w := by
          rw [Array.mapM_eq_mapM_toList, Sem.run_map, hm]; rfl
        simp only [Instr.build, Sem.run_bind, hzv, Result.andThen_ok, run_underlying hu, hpl']
        simp only [Array.toList_map, hf, Sem.run_pure]
      · cases hp
    · cases hc
  · rename_i len el z hu hz
    split at hc
    · rename_i size hsz
      simp only [Option.map_eq_some_iff] at hc
      obtain ⟨ps, hps, rfl⟩ := hc
      simp only [puA] at hp
      split at hp
      · rename_i l hl
        simp at hp; subst hp
        obtain ⟨zv, hzv, hzr⟩ := run_zeroValue (P := P) (ρ := ρ) hz
        obtain ⟨cs', hf, hr⟩ := fillA_sound hE _ _ _ _ _ _ hps hl hzr
        refine ⟨.agg cs', fun w => ?_, by simp only [Rel]; exact ⟨_, rfl, hr⟩⟩
        simp only [Instr.build, Sem.run_bind, hzv, Result.andThen_ok, run_underlying hu, run_sizeOf w hsz]
        simp only [Array.toList_map, hf, Sem.run_pure]
      · cases hp
    · cases hc
  · cases hc

theorem slS_sound {t el : TypeId} {s : Nat} {x : Operand} {ax : AX} {lo hi : Option Operand} {alo ahi : Option AX} {v : AV} (hE : Evs gs ρ e η) (hu : P.underlying t = some (.slice el)) (hs : szOf P el = some s)
    (h0 : cox gs x = some ax) (h1 : coxo gs lo = some alo) (h2 : coxo gs hi = some ahi) (h : slSA s (e ax) (alo.map e) (ahi.map e) = some v) :
    ∃ v', (∀ w, (Instr.sliceAt t (η x) (lo.map η) (hi.map η) none).run P w = .ok v' w) ∧ Rel ρ v v' := by
  have hpe : P.underlying t = some (.slice (P.elem t)) := by
    have : P.elem t = el := by unfold Program.elem; rw [hu]
    rw [this]; exact hu
  have hel : P.elem t = el := by unfold Program.elem; rw [hu]
  have rx := hE _ _ h0
  unfold slSA at h
  split at h
  · rename_i id off len ex cap es' hex
    rw [hex] at rx
    simp only [Rel] at rx
    obtain ⟨b, o, m, c, r1, r2, r3, r4, r5⟩ := rx
    split at h
    · rename_i hes
      subst hes
      split at h
      · rename_i l hh b1 b2
        split at h
        · rename_i hle
          have hsb : ∀ w, (Instr.sliceBounds true len c (lo.map η) (hi.map η) none).run P w = .ok (l, hh, c) w := fun w => sliceBounds_run hE h1 h2 b1 b2 hle.1 (by omega) true w
          have key : ∀ w, (Instr.sliceAt t (η x) (lo.map η) (hi.map η) none).run P w = .ok (sliced (some ⟨b, o + off, none⟩) l hh c es') w := fun w => by
            rw [run_sliceAt_slice w t _ _ _ _ hpe, r5, run_slice_any w t _ _ _ hpe, hsb w]
            simp [hel, run_sizeOf w hs]
          refine ⟨_, key, ?_⟩
          unfold sliced
          split at h
          · rename_i hl0
            subst hl0
            rw [frcN_eq] at h
            simp at h; subst h
            simp only [Rel]
            refine ⟨b, o, m, c, r1, r2, r3, r4, ?_⟩
            split <;> simp [Addr.add]
          · rename_i hl0
            split at h
            · rename_i hlt
              rw [frcN_eq, frcN_eq, frcN_eq] at h
              simp at h; subst h
              rw [if_neg (by omega)]
              simp only [Rel]
              refine ⟨b, o, m, c - l, r1, by omega, fun q => by rw [r3 q], ?_, ?_⟩
              · have : l * es' + (c - l) * es' = c * es' := by rw [← Nat.add_mul]; congr 1; omega
                omega
              · simp [Addr.add_lit, Nat.add_assoc]
            · split at h
              · rename_i hx
                simp at h; subst h
                have := r3 hx
                rw [if_pos (by omega)]
                simp only [Rel]
                refine ⟨b, o, m, 0, r1, by omega, fun _ => rfl, by omega, ?_⟩
                have e1 : hh - l = 0 := by omega
                have e2 : c - l = 0 := by omega
                rw [e1, e2]
              · cases h
        · cases h
      · cases h
    · cases h
  · rename_i hex
    rw [hex] at rx
    simp only [Rel] at rx
    split at h
    · rename_i b1 b2
      simp at h; subst h
      have hsb : ∀ w, (Instr.sliceBounds true 0 0 (lo.map η) (hi.map η) none).run P w = .ok (0, 0, 0) w := fun w => sliceBounds_run hE h1 h2 b1 b2 (Nat.le_refl _) (Nat.le_refl _) true w
      refine ⟨.slice none 0 0, fun w => ?_, by simp [Rel]⟩
      rw [run_sliceAt_slice w t _ _ _ _ hpe, rx, run_slice_any w t _ _ _ hpe, hsb w]
      simp [hel, run_sizeOf w hs, sliced]
    · cases h
  · cases h

theorem extract_bytes {s : ByteArray} {l : List Nat} (h : s.data.toList.map UInt8.toNat = l) (a b : Nat) : (s.extract a b).data.toList.map UInt8.toNat = (l.take b).drop a := by
  subst h
  rw [ByteArray.data_extract, Array.toList_extract, List.map_take, List.map_drop, List.drop_take]

theorem slStr_sound {t : TypeId} {x : Operand} {ax : AX} {lo hi : Option Operand} {alo ahi : Option AX} {v : AV} (hE : Evs gs ρ e η) (hu : P.underlying t = some .string)
    (h0 : cox gs x = some ax) (h1 : coxo gs lo = some alo) (h2 : coxo gs hi = some ahi) (h : slStrA (e ax) (alo.map e) (ahi.map e) = some v) :
    ∃ v', (∀ w, (Instr.sliceAt t (η x) (lo.map η) (hi.map η) none).run P w = .ok v' w) ∧ Rel ρ v v' := by
  have rx := hE _ _ h0
  unfold slStrA at h
  split at h
  · rename_i s hex
    rw [hex] at rx
    simp only [Rel] at rx
    obtain ⟨u, hv, hb⟩ := rx
    split at h
    · rename_i l hh b1 b2
      split at h
      · rename_i hle
        simp at h; subst h
        have hsz := str_size hb
        have hsb : ∀ w, (Instr.sliceBounds false u.size u.size (lo.map η) (hi.map η) none).run P w = .ok (l, hh, u.size) w := fun w => by
          rw [hsz]; exact sliceBounds_run hE h1 h2 b1 b2 hle.1 hle.2 false w
        refine ⟨.string (u.extract l hh), fun w => ?_, ?_⟩
        · rw [run_sliceAt_string w t _ _ _ _ hu, hv]
          simp [Instr.slice, run_underlying hu, hsb w]
        · simp only [Rel]
          exact ⟨_, rfl, extract_bytes hb l hh⟩
      · cases h
    · cases h
  · cases h

theorem nilchk_sound {x v : AV} {vx : Value} {o : Oper} {opd : Operand} (ho : o.op = .nilCheck opd) (hx : η opd = vx) (h : nilchkA x = some v) (rx : Rel ρ x vx) : ∃ v', (∀ w, (execOp η o).run P w = .ok (.value v') w) ∧ Rel ρ v v' := by
  refine ⟨vx, fun w => ?_, ?_⟩
  · unfold nilchkA at h
    simp only [execOp, ho, hx]
    split at h
    · simp only [Rel] at rx
      obtain ⟨b, o, m, _, rfl⟩ := rx
      rfl
    · simp only [Rel] at rx
      obtain ⟨fs', cs', rfl, _⟩ := rx
      rfl
    · simp only [Rel] at rx
      obtain ⟨b, o, m, _, rfl⟩ := rx
      rfl
    · simp only [Rel] at rx
      obtain ⟨x', rfl, _⟩ := rx
      rfl
    · cases h
  · unfold nilchkA at h
    split at h <;> simp at h <;> subst h <;> exact rx

theorem pu_sound {o : Oper} {ao : AOp} {v : AV} (hE : Evs gs ρ e η) (hc : cop P gs o = some ao) (hp : puA e ao = some v) :
    ∃ v', (∀ w, (execOp η o).run P w = .ok (.value v') w) ∧ Rel ρ v v' := by
  have lift : ∀ {s : Sem Value} {v' : Value} {w : World}, s.run P w = .ok v' w → (do pure (.value (← s)) : Sem Next).run P w = .ok (.value v') w := by
    intro s v' w h; simp [h]
  unfold cop at hc
  split at hc
  · -- move
    rename_i x ho
    simp only [Option.map_eq_some_iff] at hc
    obtain ⟨ax, hx, rfl⟩ := hc
    simp only [puA, Option.some.injEq] at hp; subst hp
    exact ⟨η x, fun w => by simp [execOp, ho], hE _ _ hx⟩
  · -- assign
    rename_i x ho
    simp only [Option.map_eq_some_iff] at hc
    obtain ⟨ax, hx, rfl⟩ := hc
    simp only [puA, Option.some.injEq] at hp; subst hp
    exact ⟨η x, fun w => by simp [execOp, ho], hE _ _ hx⟩
  · -- pick
    rename_i c a b ho
    obtain ⟨ac, aa, ab, h1, h2, h3, rfl⟩ := m3_some hc
    simp only [puA] at hp
    have hcv := hE _ _ h1
    split at hp
    · rename_i hb
      rw [hb] at hcv; simp only [Rel] at hcv
      simp at hp; subst hp
      exact ⟨η a, fun w => by simp [execOp, ho, hcv, asBool], hE _ _ h2⟩
    · rename_i hb
      rw [hb] at hcv; simp only [Rel] at hcv
      simp at hp; subst hp
      exact ⟨η b, fun w => by simp [execOp, ho, hcv, asBool], hE _ _ h3⟩
    · cases hp
  · -- alloc
    simp only [Option.map_eq_some_iff] at hc
    obtain ⟨_, _, rfl⟩ := hc
    simp [puA] at hp
  · -- box
    simp only [Option.map_eq_some_iff] at hc
    obtain ⟨_, _, rfl⟩ := hc
    simp [puA] at hp
  · -- build
    rename_i t ps ho
    obtain ⟨v', h1, h2⟩ := build_sound hE hc hp
    exact ⟨v', fun w => by simp only [execOp, ho]; exact lift (h1 w), h2⟩
  · -- buildSlice
    unfold cmksl at hc
    repeat' split at hc
    all_goals first
      | (cases hc; done)
      | (simp at hc; subst hc; simp [puA] at hp)
  · -- load
    split at hc
    · simp at hc; subst hc; simp [puA] at hp
    · cases hc
  · -- store
    split at hc
    · obtain ⟨_, _, _, _, rfl⟩ := m2_some hc
      simp [puA] at hp
    · cases hc
  · -- nilCheck
    rename_i x ho
    simp only [Option.map_eq_some_iff] at hc
    obtain ⟨ax, hx, rfl⟩ := hc
    simp only [puA] at hp
    exact nilchk_sound ho rfl hp (hE _ _ hx)
  · -- binOp
    rename_i op t x y yt ho
    obtain ⟨ax, ay, h1, h2, rfl⟩ := m2_some hc
    simp only [puA] at hp
    obtain ⟨v', h3, h4⟩ := run_bin (P := P) hp (hE _ _ h1) (hE _ _ h2) x y
    exact ⟨v', fun w => by simp only [execOp, ho]; exact lift (h3 w), h4⟩
  · -- unOp
    rename_i op t x ho
    simp only [Option.map_eq_some_iff] at hc
    obtain ⟨ax, hx, rfl⟩ := hc
    simp only [puA] at hp
    obtain ⟨v', h3, h4⟩ := run_un (P := P) hp (hE _ _ hx)
    exact ⟨v', fun w => by simp only [execOp, ho]; exact lift (h3 w), h4⟩
  · -- convert
    rename_i s d x ho
    unfold cconv at hc
    split at hc
    · rename_i k hs hd
      simp only [Option.map_eq_some_iff] at hc
      obtain ⟨ax, hx, rfl⟩ := hc
      simp only [puA] at hp
      obtain ⟨v', h3, h4⟩ := run_cvI (P := P) (src := s) (dst := d) (by rw [hs]; rfl) hd hp (hE _ _ hx)
      exact ⟨v', fun w => by simp only [execOp, ho]; exact lift (h3 w), h4⟩
    · rename_i hs hd
      simp only [Option.map_eq_some_iff] at hc
      obtain ⟨ax, hx, rfl⟩ := hc
      simp only [puA] at hp
      obtain ⟨v', h3, h4⟩ := run_cvS (P := P) hs hd hp (hE _ _ hx)
      exact ⟨v', fun w => by simp only [execOp, ho]; exact lift (h3 w), h4⟩
    · split at hc
      · simp only [Option.map_eq_some_iff] at hc
        obtain ⟨_, _, rfl⟩ := hc
        simp [puA] at hp
      · cases hc
    · split at hc
      · simp only [Option.map_eq_some_iff] at hc
        obtain ⟨_, _, rfl⟩ := hc
        simp [puA] at hp
      · cases hc
    · cases hc
  · -- makeInterface
    rename_i t x ho
    split at hc
    · rename_i hcon
      simp only [Option.map_eq_some_iff] at hc
      obtain ⟨ax, hx, rfl⟩ := hc
      simp only [puA, Option.some.injEq] at hp; subst hp
      refine ⟨.iface t (η x), fun w => by simp only [execOp, ho]; exact lift (run_makeInterface w t _ hcon), ?_⟩
      simp only [Rel]
      exact ⟨_, rfl, hE _ _ hx⟩
    · cases hc
  · -- makeFunc
    rename_i f fs cs ho
    obtain ⟨af, ac, h1, h2, rfl⟩ := m2_some hc
    simp only [puA, Option.some.injEq] at hp; subst hp
    refine ⟨.func f (fs.map η) (cs.map η), fun w => by simp [execOp, ho, Instr.makeFunc], ?_⟩
    simp only [Rel]
    exact ⟨_, _, rfl, by simpa using hE.list h1, by simpa using hE.list h2⟩
  · -- slice
    rename_i t x lo hi mx ho
    unfold cslice at hc
    split at hc
    · rename_i a l h h0 h1 h2
      split at hc
      · simp only [Option.map_eq_some_iff] at hc
        obtain ⟨_, _, rfl⟩ := hc
        simp [puA] at hp
      · rename_i hu
        simp at hc; subst hc
        simp only [puA] at hp
        obtain ⟨v', h3, h4⟩ := slStr_sound hE hu h0 h1 h2 hp
        exact ⟨v', fun w => by simp only [execOp, ho]; exact lift (h3 w), h4⟩
      · rename_i el hu
        simp only [Option.map_eq_some_iff] at hc
        obtain ⟨s, hs, rfl⟩ := hc
        simp only [puA] at hp
        obtain ⟨v', h3, h4⟩ := slS_sound hE hu hs h0 h1 h2 hp
        exact ⟨v', fun w => by simp only [execOp, ho]; exact lift (h3 w), h4⟩
      · cases hc
    · cases hc
  · -- fieldAddr
    rename_i s x f ho
    split at hc
    · rename_i fl n hf
      obtain ⟨fs, hu, hfl, hn, hpos⟩ := cfield_some hf
      simp only [Option.map_eq_some_iff] at hc
      obtain ⟨ax, hx, rfl⟩ := hc
      simp only [puA] at hp
      have rx := hE _ _ hx
      split at hp
      · rename_i id o hex
        rw [frcN_eq] at hp
        simp at hp; subst hp
        rw [hex] at rx
        simp only [Rel] at rx
        obtain ⟨b, o', m, r1, r2⟩ := rx
        refine ⟨.pointer (some ⟨b, o' + o + fl.offset, none⟩), fun w => ?_, ?_⟩
        · simp only [execOp, ho]
          refine lift ?_
          simp only [Instr.fieldAt, Sem.run_bind, run_underlying hu, Result.andThen_ok, hfl, r2, Instr.sureAddr, Sem.run_pure, fieldPlace, run_sizeOf w hn]
          rw [if_neg (by omega)]
          simp [Addr.add_lit]
        · simp only [Rel]
          exact ⟨b, o', m, r1, by rw [Nat.add_assoc]⟩
      · cases hp
    · cases hc
  · -- field
    rename_i s x f ho
    split at hc
    · rename_i fl n hf
      obtain ⟨fs, hu, hfl, hn, hpos⟩ := cfield_some hf
      split at hc
      · rename_i ag hag
        simp only [Option.map_eq_some_iff] at hc
        obtain ⟨ax, hx, rfl⟩ := hc
        simp only [puA] at hp
        obtain ⟨cs, hcs, v', h1, h2⟩ := fld_sound (P := P) hp (hE _ _ hx) hag hn
        refine ⟨v', fun w => ?_, h2⟩
        simp only [execOp, ho]
        refine lift ?_
        simp [Instr.field, run_underlying hu, hfl, hcs, asAgg, h1 w]
      · cases hc
    · cases hc
  · -- indexAddr
    rename_i t x ix ho
    unfold cixaddr at hc
    split at hc
    · rename_i el hu
      split at hc
      · rename_i s hs
        obtain ⟨ax, ai, h1, h2, rfl⟩ := m2_some hc
        simp only [puA] at hp
        have rx := hE _ _ h1
        have ri := hE _ _ h2
        split at hp
        · rename_i id off len ex cap es hex
          split at hp
          · rename_i hes
            subst hes
            obtain ⟨q, i, hi, hlt, hp⟩ := idx_some hp
            rw [frcN_eq] at hp
            simp at hp; subst hp
            rw [hex] at rx; rw [hi] at ri
            simp only [Rel] at rx ri
            obtain ⟨b, o', m, c, r1, r2, r3, r4, r5⟩ := rx
            refine ⟨.pointer (some ⟨b, o' + (off + i * es), none⟩), fun w => ?_, ?_⟩
            · simp only [execOp, ho]
              refine lift ?_
              have hlt' : (i : Int) < len := by omega
              simp [Instr.indexAt, ri, asIntOf, run_underlying hu, r5, run_sizeOf w hs, Addr.add_lit, Nat.add_assoc]
              intro hh; omega
            · simp only [Rel]
              exact ⟨b, o', m, r1, rfl⟩
          · cases hp
        · cases hp
      · cases hc
    · rename_i n el hu
      split at hc
      · rename_i s hs
        obtain ⟨ax, ai, h1, h2, rfl⟩ := m2_some hc
        simp only [puA] at hp
        have rx := hE _ _ h1
        have ri := hE _ _ h2
        split at hp
        · rename_i id o hex
          obtain ⟨q, i, hi, hlt, hp⟩ := idx_some hp
          rw [frcN_eq] at hp
          simp at hp; subst hp
          rw [hex] at rx; rw [hi] at ri
          simp only [Rel] at rx ri
          obtain ⟨b, o', m, r1, r5⟩ := rx
          refine ⟨.pointer (some ⟨b, o' + (o + i * s), none⟩), fun w => ?_, ?_⟩
          · simp only [execOp, ho]
            refine lift ?_
            have hlt' : (i : Int) < n := by omega
            simp [Instr.indexAt, ri, asIntOf, run_underlying hu, r5, Instr.sureAddr, run_sizeOf w hs, Addr.add_lit, Nat.add_assoc]
            intro hh; omega
          · simp only [Rel]
            exact ⟨b, o', m, r1, rfl⟩
        · cases hp
      · cases hc
    · cases hc
  · -- index
    rename_i t x ix ho
    unfold cindex at hc
    split at hc
    · rename_i hu
      obtain ⟨ax, ai, h1, h2, rfl⟩ := m2_some hc
      simp only [puA] at hp
      have rx := hE _ _ h1
      have ri := hE _ _ h2
      split at hp
      · rename_i l hex
        obtain ⟨q, i, hi, hlt, hp⟩ := idx_some hp
        rw [nthN_eq] at hp
        split at hp
        · rename_i b hb
          simp at hp; subst hp
          rw [hex] at rx; rw [hi] at ri
          simp only [Rel] at rx ri
          obtain ⟨u, hu', hbs⟩ := rx
          have hsz := str_size hbs
          have hget : ∃ h : i < u.size, (u[i]'h).toNat = b := by
            have h1 : i < u.size := by omega
            refine ⟨h1, ?_⟩
            rw [← hbs] at hb
            simp at hb
            obtain ⟨a, ha, rfl⟩ := hb
            have : u.data[i]? = some (u[i]'h1) := by
              rw [Array.getElem?_eq_getElem (by simpa using h1)]; rfl
            rw [this] at ha; cases ha; rfl
          obtain ⟨h1', hb'⟩ := hget
          refine ⟨.int .u8 (.ofNat b), fun w => ?_, by simp [Rel]⟩
          simp only [execOp, ho]
          refine lift ?_
          rw [hu', ri, run_index_string w t u q _ hu]
          have hlt' : (i : Int) < u.size := by omega
          simp [hlt', hb']
        · cases hp
      · cases hp
    · rename_i n el hu
      split at hc
      · rename_i s ag hs hag
        obtain ⟨ax, ai, h1, h2, rfl⟩ := m2_some hc
        simp only [puA] at hp
        have ri := hE _ _ h2
        obtain ⟨q, i, hi, hlt, hp⟩ := idx_some hp
        rw [hi] at ri
        simp only [Rel] at ri
        obtain ⟨cs, hcs, v', h3, h4⟩ := fld_sound (P := P) hp (hE _ _ h1) hag hs
        refine ⟨v', fun w => ?_, h4⟩
        simp only [execOp, ho]
        refine lift ?_
        have hlt' : (i : Int) < n := by omega
        simp [Instr.index, ri, asIntOf, run_underlying hu, hcs, run_sizeOf w hs, h3 w]
        intro hh; omega
      · cases hc
    · cases hc
  · -- extract
    rename_i x i ho
    simp only [Option.map_eq_some_iff] at hc
    obtain ⟨ax, hx, rfl⟩ := hc
    simp only [puA] at hp
    have rx := hE _ _ hx
    split at hp
    · rename_i l hex
      rw [hex] at rx
      simp only [Rel] at rx
      obtain ⟨cs, hcs, rx⟩ := rx
      rw [nthL_eq] at hp
      obtain ⟨c, hc', hr⟩ := rx.get hp
      refine ⟨c, fun w => ?_, hr⟩
      have : cs[i]? = some c := by simpa using hc'
      simp [execOp, ho, Instr.extract, hcs, this]
    · cases hp
  · -- makeSlice
    split at hc
    · split at hc
      · split at hc
        · obtain ⟨_, _, _, _, rfl⟩ := m2_some hc
          simp [puA] at hp
        · cases hc
      · cases hc
    · cases hc
  · -- call
    rename_i c ho
    unfold ccall at hc
    split at hc
    · obtain ⟨_, _, _, _, rfl⟩ := m2_some hc
      simp [puA] at hp
    · rename_i x t hcal hargs hts
      have hargs' : c.args = #[x] := Array.toList_inj.1 (by simpa using hargs)
      have hts' : c.argTypes = #[t] := Array.toList_inj.1 (by simpa using hts)
      split at hc
      · rename_i el hu
        simp only [Option.map_eq_some_iff] at hc
        obtain ⟨ax, hx, rfl⟩ := hc
        simp only [puA] at hp
        have rx := hE _ _ hx
        split at hp
        · rename_i id off len ex cap es hex
          simp at hp; subst hp
          rw [hex] at rx
          simp only [Rel] at rx
          obtain ⟨b, o', m, c', r1, r2, r3, r4, r5⟩ := rx
          refine ⟨.int .i64 len, fun w => ?_, by simp [Rel]⟩
          simp [execOp, ho, resolve, hcal, hargs', hts', invoke, builtin, Builtin.len_, run_underlying hu, r5, goInt]
        · rename_i hex
          simp at hp; subst hp
          rw [hex] at rx
          simp only [Rel] at rx
          refine ⟨.int .i64 0, fun w => ?_, by simp [Rel]⟩
          simp [execOp, ho, resolve, hcal, hargs', hts', invoke, builtin, Builtin.len_, run_underlying hu, rx, goInt]
        · simp at hp
        · cases hp
      · rename_i hu
        simp only [Option.map_eq_some_iff] at hc
        obtain ⟨ax, hx, rfl⟩ := hc
        simp only [puA] at hp
        have rx := hE _ _ hx
        split at hp
        · simp at hp
        · simp at hp
        · rename_i l hex
          simp at hp; subst hp
          rw [hex] at rx
          simp only [Rel] at rx
          obtain ⟨u, hu', hbs⟩ := rx
          refine ⟨.int .i64 u.size, fun w => ?_, ?_⟩
          · simp [execOp, ho, resolve, hcal, hargs', hts', invoke, builtin, Builtin.len_, run_underlying hu, hu', goInt]
          · simp [Rel, lenN_eq, str_size hbs]
        · cases hp
      · cases hc
    · rename_i x t hcal hargs hts
      have hargs' : c.args = #[x] := Array.toList_inj.1 (by simpa using hargs)
      have hts' : c.argTypes = #[t] := Array.toList_inj.1 (by simpa using hts)
      split at hc
      · rename_i el hu
        simp only [Option.map_eq_some_iff] at hc
        obtain ⟨ax, hx, rfl⟩ := hc
        simp only [puA] at hp
        have rx := hE _ _ hx
        split at hp
        · rename_i id off len cap es hex
          simp at hp; subst hp
          rw [hex] at rx
          simp only [Rel] at rx
          obtain ⟨b, o', m, c', r1, r2, r3, r4, r5⟩ := rx
          refine ⟨.int .i64 c', fun w => ?_, by simp [Rel, r3]⟩
          simp [execOp, ho, resolve, hcal, hargs', hts', invoke, builtin, Builtin.cap_, run_underlying hu, r5, goInt]
        · rename_i hex
          simp at hp; subst hp
          rw [hex] at rx
          simp only [Rel] at rx
          refine ⟨.int .i64 0, fun w => ?_, by simp [Rel]⟩
          simp [execOp, ho, resolve, hcal, hargs', hts', invoke, builtin, Builtin.cap_, run_underlying hu, rx, goInt]
        · cases hp
      · cases hc
    · split at hc
      · split at hc
        · split at hc
          · obtain ⟨_, _, _, _, rfl⟩ := m2_some hc
            simp [puA] at hp
          · cases hc
        · cases hc
      · cases hc
    · cases hc
  · -- panic
    simp at hc; subst hc; simp [puA] at hp
  · cases hc
end
end Go.Abs
