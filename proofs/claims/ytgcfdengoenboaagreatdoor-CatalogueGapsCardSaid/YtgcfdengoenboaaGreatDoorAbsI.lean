/- The abstract interpreter, part I: the operations that touch no memory do what they are said to do. -/
import Derived.Test.YtgcfdengoenboaaGreatDoorAbsD
namespace Go.Abs
section
variable {P : Program} {ρ : Env} {gs : List Nat} {e : AX → AV} {η : Operand → Value}

theorem idx_some {x : AV} {n : Nat} {k : Nat → Option AV} {v : AV} (h : idx x n k = some v) : ∃ q i, x = .int q (.ofNat i) ∧ i < n ∧ k i = some v := by
  unfold idx at h
  split at h
  · split at h
    · exact ⟨_, _, rfl, by assumption, h⟩
    · cases h
  · cases h

theorem bnd_some {x : Option AV} {d n : Nat} (h : bnd x d = some n) : (x = none ∧ n = d) ∨ ∃ k, x = some (.int k (.ofNat n)) := by
  unfold bnd at h
  split at h
  · simp at h; exact .inl ⟨rfl, h.symm⟩
  · simp at h; subst h; exact .inr ⟨_, rfl⟩
  · cases h

/-- A bound of a slice, at its value. -/
theorem bound_run {lo : Option Operand} {alo : Option AX} {d n y : Nat} (hE : Evs gs ρ e η) (hc : coxo gs lo = some alo) (hb : bnd (alo.map e) d = some n) (hy : n ≤ y) (code : BoundsCode) (w : World) :
    (match lo.map η with | some v => Instr.sliceBound v y code | none => pure d).run P w = .ok n w := by
  cases lo with
  | none =>
    simp [coxo] at hc; subst hc
    rcases bnd_some hb with ⟨_, rfl⟩ | ⟨k, hk⟩
    · rfl
    · simp at hk
  | some x =>
    simp only [coxo, Option.map_eq_some_iff] at hc
    obtain ⟨ax, hax, rfl⟩ := hc
    rcases bnd_some hb with ⟨hk, _⟩ | ⟨k, hk⟩
    · simp at hk
    · simp at hk
      have hr := hE _ _ hax
      rw [hk] at hr
      simp only [Rel] at hr
      simp only [Option.map_some, hr]
      rw [run_sliceBound w k _ y code (by simp) (by simp; omega)]
      simp

theorem sliceBounds_run {lo hi : Option Operand} {alo ahi : Option AX} {len cap l h : Nat} (hE : Evs gs ρ e η) (h1 : coxo gs lo = some alo) (h2 : coxo gs hi = some ahi)
    (b1 : bnd (alo.map e) 0 = some l) (b2 : bnd (ahi.map e) len = some h) (hl : l ≤ h) (hh : h ≤ cap) (sl : Bool) (w : World) :
    (Instr.sliceBounds sl len cap (lo.map η) (hi.map η) none).run P w = .ok (l, h, cap) w := by
  have e1 : ∀ w, (match hi.map η with | some v => Instr.sliceBound v cap (if sl then .sliceAcap else .sliceAlen) | none => pure len : Sem Nat).run P w = .ok h w := fun w => bound_run hE h2 b2 hh _ w
  have e2 : ∀ w, (match lo.map η with | some v => Instr.sliceBound v h .sliceB | none => pure 0 : Sem Nat).run P w = .ok l w := fun w => bound_run hE h1 b1 hl _ w
  have e1' := e1 w
  have e2' := e2 w
  unfold Instr.sliceBounds
  cases hlo : lo.map η with
  | none =>
    rw [hlo] at e2'
    cases hhi : hi.map η with
    | none => rw [hhi] at e1'; simp at e1' e2' ⊢; omega
    | some v => rw [hhi] at e1'; simp at e1' e2' ⊢; rw [e1']; simp [e2']
  | some u =>
    rw [hlo] at e2'
    cases hhi : hi.map η with
    | none => rw [hhi] at e1'; simp at e1' e2' ⊢; subst e1'; rw [e2']; simp
    | some v => rw [hhi] at e1'; simp at e1' e2' ⊢; rw [e1']; simp [e2']

theorem fld_sound {ag : Bool} {off n : Nat} {x v : AV} {vx : Value} {t : TypeId} (h : fldA ag off n x = some v) (rx : Rel ρ x vx) (ha : agOf P t = some ag) (hs : szOf P t = some n) :
    ∃ cs : Array Value, vx = .agg cs ∧ ∃ v', (∀ w, (part t cs off).run P w = .ok v' w) ∧ Rel ρ v v' := by
  unfold fldA at h
  split at h
  · rename_i l
    simp only [Rel] at rx
    obtain ⟨cs, rfl, rx⟩ := rx
    refine ⟨cs, rfl, ?_⟩
    split at h
    · split at h
      · rename_i r hr
        simp at h; subst h
        obtain ⟨t1, t2⟩ := takeN_spec hr
        refine ⟨.agg (cs.extract off (off + n)), fun w => by simp [part, run_isAgg w ha, run_sizeOf w hs], ?_⟩
        simp only [Rel]
        refine ⟨_, rfl, ?_⟩
        rw [t1]
        have := (rx.drop off).take n
        simpa using this
      · cases h
    · rw [nthL_eq] at h
      obtain ⟨c, hc, hr⟩ := rx.get h
      refine ⟨c, fun w => ?_, hr⟩
      have : cs[off]? = some c := by simpa using hc
      simp [part, run_isAgg w ha, this]
  · cases h

theorem cfield_some {s : TypeId} {f n : Nat} {fl : Field} (h : cfield P s f = some (fl, n)) : ∃ fs, P.underlying s = some (.struct fs) ∧ fs[f]? = some fl ∧ szOf P fl.type = some n ∧ 0 < n := by
  unfold cfield at h
  split at h
  · rename_i fs hu
    split at h
    · rename_i fl' hf
      split at h
      · rename_i n' hn
        split at h
        · rename_i hp
          simp at h
          obtain ⟨rfl, rfl⟩ := h
          exact ⟨fs, hu, hf, hn, hp⟩
        · cases h
      · cases h
    · cases h
  · cases h

theorem mapM_fields {fs : List Field} {places : List (Nat × Nat)} (h : fs.mapM (fun f => (szOf P f.type).map fun n => (f.offset, n)) = some places) (w : World) :
    (fs.mapM (fun f => do pure (f.offset, ← sizeOf f.type) : Field → Sem (Nat × Nat))).run P w = .ok places w := by
  induction fs generalizing places with
  | nil => simp at h; subst h; simp
  | cons f fs ih =>
    simp only [List.mapM_cons, Option.bind_eq_bind, Option.bind_eq_some_iff, Option.map_eq_some_iff] at h
    obtain ⟨p, ⟨n, hn, rfl⟩, ps, hps, h⟩ := h
    simp at h; subst h
    simp only [List.mapM_cons, Sem.run_bind, run_sizeOf w hn, Result.andThen_ok, Sem.run_pure, ih hps]

theorem build_sound {t : TypeId} {parts : Array (Nat × Operand)} {ao : AOp} {v : AV} (hE : Evs gs ρ e η) (hc : cbuild P gs t parts.toList = some ao) (hp : puA e ao = some v) :
    ∃ v', (∀ w, (Instr.build t (parts.map fun (i, x) => (i, η x))).run P w = .ok v' w) ∧ Rel ρ v v' := by
  unfold cbuild at hc
  split at hc
  · rename_i fs z hu hz
    split at hc
    · rename_i places hpl
      simp only [Option.map_eq_some_iff] at hc
      obtain ⟨ps, hps, rfl⟩ := hc
      simp only [puA] at hp
      split at hp
      · rename_i l hl
        simp at hp; subst hp
        obtain ⟨zv, hzv, hzr⟩ := run_zeroValue (P := P) (ρ := ρ) hz
        obtain ⟨cs', hf, hr⟩ := fillA_sound hE _ _ _ _ _ _ hps hl hzr
        refine ⟨.agg cs', fun w => ?_, by simp only [Rel]; exact ⟨_, rfl, hr⟩⟩
        have hm := mapM_fields hpl w
        have hpl' : (fs.mapM (fun f => do pure (f.offset, ← sizeOf f.type) : Field → Sem (Nat × Nat))).run P w = .ok places.toArray w := by
          rw [Array.mapM_eq_mapM_toList, Sem.run_map, hm]; rfl
        simp only [Instr.build, Sem.run_bind, hzv, Result.andThen_ok, run_underlying hu, hpl']
        simp only [Array.toList_map, hf, Sem.run_pure]
      · cases hp
    · cases hc
  · rename_i len el z hu hz
    split at hc
    · rename_i size hsz
      simp only [Option.map_eq_some_iff] at hc
      obtain ⟨ps, hps, rfl⟩ := hc
      simp only [puA] at hp
      split at hp
      · rename_i l hl
        simp at hp; subst hp
        obtain ⟨zv, hzv, hzr⟩ := run_zeroValue (P := P) (ρ := ρ) hz
        obtain ⟨cs', hf, hr⟩ := fillA_sound hE _ _ _ _ _ _ hps hl hzr
        refine ⟨.agg cs', fun w => ?_, by simp only [Rel]; exact ⟨_, rfl, hr⟩⟩
        simp only [Instr.build, Sem.run_bind, hzv, Result.andThen_ok, run_underlying hu, run_sizeOf w hsz]
        simp only [Array.toList_map, hf, Sem.run_pure]
      · cases hp
    · cases hc
  · cases hc

theorem slS_sound {t el : TypeId} {s : Nat} {x : Operand} {ax : AX} {lo hi : Option Operand} {alo ahi : Option AX} {v : AV} (hE : Evs gs ρ e η) (hu : P.underlying t = some (.slice el)) (hs : szOf P el = some s)
    (h0 : cox gs x = some ax) (h1 : coxo gs lo = some alo) (h2 : coxo gs hi = some ahi) (h : slSA s (e ax) (alo.map e) (ahi.map e) = some v) :
    ∃ v', (∀ w, (Instr.sliceAt t (η x) (lo.map η) (hi.map η) none).run P w = .ok v' w) ∧ Rel ρ v v' := by
  have hpe : P.underlying t = some (.slice (P.elem t)) := by
    have : P.elem t = el := by unfold Program.elem; rw [hu]
    rw [this]; exact hu
  have hel : P.elem t = el := by unfold Program.elem; rw [hu]
  have rx := hE _ _ h0
  unfold slSA at h
  split at h
  · rename_i id off len ex cap es' hex
    rw [hex] at rx
    simp only [Rel] at rx
    obtain ⟨b, o, m, c, r1, r2, r3, r4, r5⟩ := rx
    split at h
    · rename_i hes
      subst hes
      split at h
      · rename_i l hh b1 b2
        split at h
        · rename_i hle
          have hsb : ∀ w, (Instr.sliceBounds true len c (lo.map η) (hi.map η) none).run P w = .ok (l, hh, c) w := fun w => sliceBounds_run hE h1 h2 b1 b2 hle.1 (by omega) true w
          have key : ∀ w, (Instr.sliceAt t (η x) (lo.map η) (hi.map η) none).run P w = .ok (sliced (some ⟨b, o + off, none⟩) l hh c es') w := fun w => by
            rw [run_sliceAt_slice w t _ _ _ _ hpe, r5, run_slice_any w t _ _ _ hpe, hsb w]
            simp [hel, run_sizeOf w hs]
          refine ⟨_, key, ?_⟩
          unfold sliced
          split at h
          · rename_i hl0
            subst hl0
            rw [frcN_eq] at h
            simp at h; subst h
            simp only [Rel]
            refine ⟨b, o, m, c, r1, r2, r3, r4, ?_⟩
            split <;> simp [Addr.add]
          · rename_i hl0
            split at h
            · rename_i hlt
              rw [frcN_eq, frcN_eq, frcN_eq] at h
              simp at h; subst h
              rw [if_neg (by omega)]
              simp only [Rel]
              refine ⟨b, o, m, c - l, r1, by omega, fun q => by rw [r3 q], ?_, ?_⟩
              · have : l * es' + (c - l) * es' = c * es' := by rw [← Nat.add_mul]; congr 1; omega
                omega
              · simp [Addr.add_lit, Nat.add_assoc]
            · split at h
              · rename_i hx
                simp at h; subst h
                have := r3 hx
                rw [if_pos (by omega)]
                simp only [Rel]
                refine ⟨b, o, m, 0, r1, by omega, fun _ => rfl, by omega, ?_⟩
                have e1 : hh - l = 0 := by omega
                have e2 : c - l = 0 := by omega
                rw [e1, e2]
              · cases h
        · cases h
      · cases h
    · cases h
  · rename_i hex
    rw [hex] at rx
    simp only [Rel] at rx
    split at h
    · rename_i b1 b2
      simp at h; subst h
      have hsb : ∀ w, (Instr.sliceBounds true 0 0 (lo.map η) (hi.map η) none).run P w = .ok (0, 0, 0) w := fun w => sliceBounds_run hE h1 h2 b1 b2 (Nat.le_refl _) (Nat.le_refl _) true w
      refine ⟨.slice none 0 0, fun w => ?_, by simp [Rel]⟩
      rw [run_sliceAt_slice w t _ _ _ _ hpe, rx, run_slice_any w t _ _ _ hpe, hsb w]
      simp [hel, run_sizeOf w hs, sliced]
    · cases h
  · cases h

theorem extract_bytes {s : ByteArray} {l : List Nat} (h : s.data.toList.map UInt8.toNat = l) (a b : Nat) : (s.extract a b).data.toList.map UInt8.toNat = (l.take b).drop a := by
  subst h
  rw [ByteArray.data_extract, Array.toList_extract, List.map_take, List.map_drop, List.drop_take]

theorem slStr_sound {t : TypeId} {x : Operand} {ax : AX} {lo hi : Option Operand} {alo ahi : Option AX} {v : AV} (hE : Evs gs ρ e η) (hu : P.underlying t = some .string)
    (h0 : cox gs x = some ax) (h1 : coxo gs lo = some alo) (h2 : coxo gs hi = some ahi) (h : slStrA (e ax) (alo.map e) (ahi.map e) = some v) :
    ∃ v', (∀ w, (Instr.sliceAt t (η x) (lo.map η) (hi.map η) none).run P w = .ok v' w) ∧ Rel ρ v v' := by
  have rx := hE _ _ h0
  unfold slStrA at h
  split at h
  · rename_i s hex
    rw [hex] at rx
    simp only [Rel] at rx
    obtain ⟨u, hv, hb⟩ := rx
    split at h
    · rename_i l hh b1 b2
      split at h
      · rename_i hle
        simp at h; subst h
        have hsz := str_size hb
        have hsb : ∀ w, (Instr.sliceBounds false u.size u.size (lo.map η) (hi.map η) none).run P w = .ok (l, hh, u.size) w := fun w => by
          rw [hsz]; exact sliceBounds_run hE h1 h2 b1 b2 hle.1 hle.2 false w
        refine ⟨.string (u.extract l hh), fun w => ?_, ?_⟩
        · rw [run_sliceAt_string w t _ _ _ _ hu, hv]
          simp [Instr.slice, run_underlying hu, hsb w]
        · simp only [Rel]
          exact ⟨_, rfl, extract_bytes hb l hh⟩
      · cases h
    · cases h
  · cases h

theorem nilchk_sound {x v : AV} {vx : Value} {o : Oper} {opd : Operand} (ho : o.op = .nilCheck opd) (hx : η opd = vx) (h : nilchkA x = some v) (rx : Rel ρ x vx) : ∃ v', (∀ w, (execOp η o).run P w = .ok (.value v') w) ∧ Rel ρ v v' := by
  refine ⟨vx, fun w => ?_, ?_⟩
  · unfold nilchkA at h
    simp only [execOp, ho, hx]
    split at h
    · simp only [Rel] at rx
      obtain ⟨b, o, m, _, rfl⟩ := rx
      rfl
    · simp only [Rel] at rx
      obtain ⟨fs', cs', rfl, _⟩ := rx
      rfl
    · simp only [Rel] at rx
      obtain ⟨b, o, m, _, rfl⟩ := rx
      rfl
    · simp only [Rel] at rx
      obtain ⟨x', rfl, _⟩ := rx
      rfl
    · cases h
  · unfold nilchkA at h
    split at h <;> simp at h <;> subst h <;> exact rx

theorem pu_sound {o : Oper} {ao : AOp} {v : AV} (hE : Evs gs ρ e η) (hc : cop P gs o = some ao) (hp : puA e ao = some v) :
    ∃ v', (∀ w, (execOp η o).run P w = .ok (.value v') w) ∧ Rel ρ v v' := by
  have lift : ∀ {s : Sem Value} {v' : Value} {w : World}, s.run P w = .ok v' w → (do pure (.value (← s)) : Sem Next).run P w = .ok (.value v') w := by
    intro s v' w h; simp [h]
  unfold cop at hc
  split at hc
  · -- move
    rename_i x ho
    simp only [Option.map_eq_some_iff] at hc
    obtain ⟨ax, hx, rfl⟩ := hc
    simp only [puA, Option.some.injEq] at hp; subst hp
    exact ⟨η x, fun w => by simp [execOp, ho], hE _ _ hx⟩
  · -- assign
    rename_i x ho
    simp only [Option.map_eq_some_iff] at hc
    obtain ⟨ax, hx, rfl⟩ := hc
    simp only [puA, Option.some.injEq] at hp; subst hp
    exact ⟨η x, fun w => by simp [execOp, ho], hE _ _ hx⟩
  · -- pick
    rename_i c a b ho
    obtain ⟨ac, aa, ab, h1, h2, h3, rfl⟩ := m3_some hc
    simp only [puA] at hp
    have hcv := hE _ _ h1
    split at hp
    · rename_i hb
      rw [hb] at hcv; simp only [Rel] at hcv
      simp at hp; subst hp
      exact ⟨η a, fun w => by simp [execOp, ho, hcv, asBool], hE _ _ h2⟩
    · rename_i hb
      rw [hb] at hcv; simp only [Rel] at hcv
      simp at hp; subst hp
      exact ⟨η b, fun w => by simp [execOp, ho, hcv, asBool], hE _ _ h3⟩
    · cases hp
  · -- alloc
    simp only [Option.map_eq_some_iff] at hc
    obtain ⟨_, _, rfl⟩ := hc
    simp [puA] at hp
  · -- box
    simp only [Option.map_eq_some_iff] at hc
    obtain ⟨_, _, rfl⟩ := hc
    simp [puA] at hp
  · -- build
    rename_i t ps ho
    obtain ⟨v', h1, h2⟩ := build_sound hE hc hp
    exact ⟨v', fun w => by simp only [execOp, ho]; exact lift (h1 w), h2⟩
  · -- buildSlice
    unfold cmksl csl0 at hc
    repeat' split at hc
    all_goals first
      | (cases hc; done)
      | (simp at hc; subst hc; simp [puA] at hp)
  · -- load
    split at hc
    · simp at hc; subst hc; simp [puA] at hp
    · cases hc
  · -- store
    split at hc
    · obtain ⟨_, _, _, _, rfl⟩ := m2_some hc
      simp [puA] at hp
    · cases hc
  · -- nilCheck
    rename_i x ho
    simp only [Option.map_eq_some_iff] at hc
    obtain ⟨ax, hx, rfl⟩ := hc
    simp only [puA] at hp
    exact nilchk_sound ho rfl hp (hE _ _ hx)
  · -- binOp
    rename_i op t x y yt ho
    split at hc
    · simp only [Option.map_eq_some_iff] at hc
      obtain ⟨_, _, rfl⟩ := hc
      simp [puA] at hp
    · obtain ⟨ax, ay, h1, h2, rfl⟩ := m2_some hc
      simp only [puA] at hp
      obtain ⟨v', h3, h4⟩ := run_bin (P := P) hp (hE _ _ h1) (hE _ _ h2) x y
      exact ⟨v', fun w => by simp only [execOp, ho]; exact lift (h3 w), h4⟩
  · -- unOp
    rename_i op t x ho
    simp only [Option.map_eq_some_iff] at hc
    obtain ⟨ax, hx, rfl⟩ := hc
    simp only [puA] at hp
    obtain ⟨v', h3, h4⟩ := run_un (P := P) hp (hE _ _ hx)
    exact ⟨v', fun w => by simp only [execOp, ho]; exact lift (h3 w), h4⟩
  · -- convert
    rename_i s d x ho
    unfold cconv at hc
    split at hc
    · rename_i k hs hd
      simp only [Option.map_eq_some_iff] at hc
      obtain ⟨ax, hx, rfl⟩ := hc
      simp only [puA] at hp
      obtain ⟨v', h3, h4⟩ := run_cvI (P := P) (src := s) (dst := d) (by rw [hs]; rfl) hd hp (hE _ _ hx)
      exact ⟨v', fun w => by simp only [execOp, ho]; exact lift (h3 w), h4⟩
    · rename_i hs hd
      simp only [Option.map_eq_some_iff] at hc
      obtain ⟨ax, hx, rfl⟩ := hc
      simp only [puA] at hp
      obtain ⟨v', h3, h4⟩ := run_cvS (P := P) hs hd hp (hE _ _ hx)
      exact ⟨v', fun w => by simp only [execOp, ho]; exact lift (h3 w), h4⟩
    · split at hc
      · simp only [Option.map_eq_some_iff] at hc
        obtain ⟨_, _, rfl⟩ := hc
        simp [puA] at hp
      · cases hc
    · split at hc
      · simp only [Option.map_eq_some_iff] at hc
        obtain ⟨_, _, rfl⟩ := hc
        simp [puA] at hp
      · cases hc
    · cases hc
  · -- makeInterface
    rename_i t x ho
    split at hc
    · rename_i hcon
      simp only [Option.map_eq_some_iff] at hc
      obtain ⟨ax, hx, rfl⟩ := hc
      simp only [puA, Option.some.injEq] at hp; subst hp
      refine ⟨.iface t (η x), fun w => by simp only [execOp, ho]; exact lift (run_makeInterface w t _ hcon), ?_⟩
      simp only [Rel]
      exact ⟨_, rfl, hE _ _ hx⟩
    · cases hc
  · -- makeFunc
    rename_i f fs cs ho
    obtain ⟨af, ac, h1, h2, rfl⟩ := m2_some hc
    simp only [puA, Option.some.injEq] at hp; subst hp
    refine ⟨.func f (fs.map η) (cs.map η), fun w => by simp [execOp, ho, Instr.makeFunc], ?_⟩
    simp only [Rel]
    exact ⟨_, _, rfl, by simpa using hE.list h1, by simpa using hE.list h2⟩
  · -- slice
    rename_i t x lo hi mx ho
    unfold cslice at hc
    split at hc
    · rename_i a l h h0 h1 h2
      split at hc
      · simp only [Option.map_eq_some_iff] at hc
        obtain ⟨_, _, rfl⟩ := hc
        simp [puA] at hp
      · rename_i hu
        simp at hc; subst hc
        simp only [puA] at hp
        obtain ⟨v', h3, h4⟩ := slStr_sound hE hu h0 h1 h2 hp
        exact ⟨v', fun w => by simp only [execOp, ho]; exact lift (h3 w), h4⟩
      · rename_i el hu
        simp only [Option.map_eq_some_iff] at hc
        obtain ⟨s, hs, rfl⟩ := hc
        simp only [puA] at hp
        obtain ⟨v', h3, h4⟩ := slS_sound hE hu hs h0 h1 h2 hp
        exact ⟨v', fun w => by simp only [execOp, ho]; exact lift (h3 w), h4⟩
      · cases hc
    · cases hc
  · -- fieldAddr
    rename_i s x f ho
    split at hc
    · rename_i fl n hf
      obtain ⟨fs, hu, hfl, hn, hpos⟩ := cfield_some hf
      simp only [Option.map_eq_some_iff] at hc
      obtain ⟨ax, hx, rfl⟩ := hc
      simp only [puA] at hp
      have rx := hE _ _ hx
      split at hp
      · rename_i id o hex
        rw [frcN_eq] at hp
        simp at hp; subst hp
        rw [hex] at rx
        simp only [Rel] at rx
        obtain ⟨b, o', m, r1, r2⟩ := rx
        refine ⟨.pointer (some ⟨b, o' + o + fl.offset, none⟩), fun w => ?_, ?_⟩
        · simp only [execOp, ho]
          refine lift ?_
          simp only [Instr.fieldAt, Sem.run_bind, run_underlying hu, Result.andThen_ok, hfl, r2, Instr.sureAddr, Sem.run_pure, fieldPlace, run_sizeOf w hn]
          rw [if_neg (by omega)]
          simp [Addr.add_lit]
        · simp only [Rel]
          exact ⟨b, o', m, r1, by rw [Nat.add_assoc]⟩
      · cases hp
    · cases hc
  · -- field
    rename_i s x f ho
    split at hc
    · rename_i fl n hf
      obtain ⟨fs, hu, hfl, hn, hpos⟩ := cfield_some hf
      split at hc
      · rename_i ag hag
        simp only [Option.map_eq_some_iff] at hc
        obtain ⟨ax, hx, rfl⟩ := hc
        simp only [puA] at hp
        obtain ⟨cs, hcs, v', h1, h2⟩ := fld_sound (P := P) hp (hE _ _ hx) hag hn
        refine ⟨v', fun w => ?_, h2⟩
        simp only [execOp, ho]
        refine lift ?_
        simp [Instr.field, run_underlying hu, hfl, hcs, asAgg, h1 w]
      · cases hc
    · cases hc
  · -- indexAddr
    rename_i t x ix ho
    unfold cixaddr at hc
    split at hc
    · rename_i el hu
      split at hc
      · rename_i s hs
        obtain ⟨ax, ai, h1, h2, rfl⟩ := m2_some hc
        simp only [puA] at hp
        have rx := hE _ _ h1
        have ri := hE _ _ h2
        split at hp
        · rename_i id off len ex cap es hex
          split at hp
          · rename_i hes
            subst hes
            obtain ⟨q, i, hi, hlt, hp⟩ := idx_some hp
            rw [frcN_eq] at hp
            simp at hp; subst hp
            rw [hex] at rx; rw [hi] at ri
            simp only [Rel] at rx ri
            obtain ⟨b, o', m, c, r1, r2, r3, r4, r5⟩ := rx
            refine ⟨.pointer (some ⟨b, o' + (off + i * es), none⟩), fun w => ?_, ?_⟩
            · simp only [execOp, ho]
              refine lift ?_
              have hlt' : (i : Int) < len := by omega
              simp [Instr.indexAt, ri, asIntOf, run_underlying hu, r5, run_sizeOf w hs, Addr.add_lit, Nat.add_assoc]
              intro hh; omega
            · simp only [Rel]
              exact ⟨b, o', m, r1, rfl⟩
          · cases hp
        · cases hp
      · cases hc
    · rename_i n el hu
      split at hc
      · rename_i s hs
        obtain ⟨ax, ai, h1, h2, rfl⟩ := m2_some hc
        simp only [puA] at hp
        have rx := hE _ _ h1
        have ri := hE _ _ h2
        split at hp
        · rename_i id o hex
          obtain ⟨q, i, hi, hlt, hp⟩ := idx_some hp
          rw [frcN_eq] at hp
          simp at hp; subst hp
          rw [hex] at rx; rw [hi] at ri
          simp only [Rel] at rx ri
          obtain ⟨b, o', m, r1, r5⟩ := rx
          refine ⟨.pointer (some ⟨b, o' + (o + i * s), none⟩), fun w => ?_, ?_⟩
          · simp only [execOp, ho]
            refine lift ?_
            have hlt' : (i : Int) < n := by omega
            simp [Instr.indexAt, ri, asIntOf, run_underlying hu, r5, Instr.sureAddr, run_sizeOf w hs, Addr.add_lit, Nat.add_assoc]
            intro hh; omega
          · simp only [Rel]
            exact ⟨b, o', m, r1, rfl⟩
        · cases hp
      · cases hc
    · cases hc
  · -- index
    rename_i t x ix ho
    unfold cindex at hc
    split at hc
    · rename_i hu
      obtain ⟨ax, ai, h1, h2, rfl⟩ := m2_some hc
      simp only [puA] at hp
      have rx := hE _ _ h1
      have ri := hE _ _ h2
      split at hp
      · rename_i l hex
        obtain ⟨q, i, hi, hlt, hp⟩ := idx_some hp
        rw [nthN_eq] at hp
        split at hp
        · rename_i b hb
          simp at hp; subst hp
          rw [hex] at rx; rw [hi] at ri
          simp only [Rel] at rx ri
          obtain ⟨u, hu', hbs⟩ := rx
          have hsz := str_size hbs
          have hget : ∃ h : i < u.size, (u[i]'h).toNat = b := by
            have h1 : i < u.size := by omega
            refine ⟨h1, ?_⟩
            rw [← hbs] at hb
            simp at hb
            obtain ⟨a, ha, rfl⟩ := hb
            have : u.data[i]? = some (u[i]'h1) := by
              rw [Array.getElem?_eq_getElem (by simpa using h1)]; rfl
            rw [this] at ha; cases ha; rfl
          obtain ⟨h1', hb'⟩ := hget
          refine ⟨.int .u8 (.ofNat b), fun w => ?_, by simp [Rel]⟩
          simp only [execOp, ho]
          refine lift ?_
          rw [hu', ri, run_index_string w t u q _ hu]
          have hlt' : (i : Int) < u.size := by omega
          simp [hlt', hb']
        · cases hp
      · cases hp
    · rename_i n el hu
      split at hc
      · rename_i s ag hs hag
        obtain ⟨ax, ai, h1, h2, rfl⟩ := m2_some hc
        simp only [puA] at hp
        have ri := hE _ _ h2
        obtain ⟨q, i, hi, hlt, hp⟩ := idx_some hp
        rw [hi] at ri
        simp only [Rel] at ri
        obtain ⟨cs, hcs, v', h3, h4⟩ := fld_sound (P := P) hp (hE _ _ h1) hag hs
        refine ⟨v', fun w => ?_, h4⟩
        simp only [execOp, ho]
        refine lift ?_
        have hlt' : (i : Int) < n := by omega
        simp [Instr.index, ri, asIntOf, run_underlying hu, hcs, run_sizeOf w hs, h3 w]
        intro hh; omega
      · cases hc
    · cases hc
  · -- extract
    rename_i x i ho
    simp only [Option.map_eq_some_iff] at hc
    obtain ⟨ax, hx, rfl⟩ := hc
    simp only [puA] at hp
    have rx := hE _ _ hx
    split at hp
    · rename_i l hex
      rw [hex] at rx
      simp only [Rel] at rx
      obtain ⟨cs, hcs, rx⟩ := rx
      rw [nthL_eq] at hp
      obtain ⟨c, hc', hr⟩ := rx.get hp
      refine ⟨c, fun w => ?_, hr⟩
      have : cs[i]? = some c := by simpa using hc'
      simp [execOp, ho, Instr.extract, hcs, this]
    · cases hp
  · -- makeSlice
    split at hc
    · split at hc
      · split at hc
        · simp only [Option.map_eq_some_iff] at hc
          obtain ⟨_, _, rfl⟩ := hc
          simp [puA] at hp
        · cases hc
      · cases hc
    · cases hc
  · -- makeMap
    simp only [Option.some.injEq] at hc
    subst hc
    simp [puA] at hp
  · -- lookup
    split at hc
    · split at hc
      · simp only [Option.map_eq_some_iff] at hc
        obtain ⟨_, _, rfl⟩ := hc
        simp [puA] at hp
      · cases hc
    · cases hc
  · -- mapUpdate
    split at hc
    · split at hc
      · simp only [Option.map_eq_some_iff] at hc
        obtain ⟨_, _, rfl⟩ := hc
        simp [puA] at hp
      · cases hc
    · cases hc
  · -- range
    split at hc
    · simp only [Option.map_eq_some_iff] at hc
      obtain ⟨_, _, rfl⟩ := hc
      simp [puA] at hp
    · cases hc
  · -- next
    split at hc
    · simp only [Option.map_eq_some_iff] at hc
      obtain ⟨_, _, rfl⟩ := hc
      simp [puA] at hp
    · cases hc
  · -- call
    rename_i c ho
    unfold ccall at hc
    split at hc
    · obtain ⟨_, _, _, _, rfl⟩ := m2_some hc
      simp [puA] at hp
    · rename_i x t hcal hargs hts
      have hargs' : c.args = #[x] := Array.toList_inj.1 (by simpa using hargs)
      have hts' : c.argTypes = #[t] := Array.toList_inj.1 (by simpa using hts)
      split at hc
      · rename_i el hu
        simp only [Option.map_eq_some_iff] at hc
        obtain ⟨ax, hx, rfl⟩ := hc
        simp only [puA] at hp
        have rx := hE _ _ hx
        split at hp
        · rename_i id off len ex cap es hex
          simp at hp; subst hp
          rw [hex] at rx
          simp only [Rel] at rx
          obtain ⟨b, o', m, c', r1, r2, r3, r4, r5⟩ := rx
          refine ⟨.int .i64 len, fun w => ?_, by simp [Rel]⟩
          simp [execOp, ho, resolve, hcal, hargs', hts', invoke, builtin, Builtin.len_, run_underlying hu, r5, goInt]
        · rename_i hex
          simp at hp; subst hp
          rw [hex] at rx
          simp only [Rel] at rx
          refine ⟨.int .i64 0, fun w => ?_, by simp [Rel]⟩
          simp [execOp, ho, resolve, hcal, hargs', hts', invoke, builtin, Builtin.len_, run_underlying hu, rx, goInt]
        · simp at hp
        · cases hp
      · rename_i hu
        simp only [Option.map_eq_some_iff] at hc
        obtain ⟨ax, hx, rfl⟩ := hc
        simp only [puA] at hp
        have rx := hE _ _ hx
        split at hp
        · simp at hp
        · simp at hp
        · rename_i l hex
          simp at hp; subst hp
          rw [hex] at rx
          simp only [Rel] at rx
          obtain ⟨u, hu', hbs⟩ := rx
          refine ⟨.int .i64 u.size, fun w => ?_, ?_⟩
          · simp [execOp, ho, resolve, hcal, hargs', hts', invoke, builtin, Builtin.len_, run_underlying hu, hu', goInt]
          · simp [Rel, lenN_eq, str_size hbs]
        · cases hp
      · cases hc
    · rename_i x t hcal hargs hts
      have hargs' : c.args = #[x] := Array.toList_inj.1 (by simpa using hargs)
      have hts' : c.argTypes = #[t] := Array.toList_inj.1 (by simpa using hts)
      split at hc
      · rename_i el hu
        simp only [Option.map_eq_some_iff] at hc
        obtain ⟨ax, hx, rfl⟩ := hc
        simp only [puA] at hp
        have rx := hE _ _ hx
        split at hp
        · rename_i id off len cap es hex
          simp at hp; subst hp
          rw [hex] at rx
          simp only [Rel] at rx
          obtain ⟨b, o', m, c', r1, r2, r3, r4, r5⟩ := rx
          refine ⟨.int .i64 c', fun w => ?_, by simp [Rel, r3]⟩
          simp [execOp, ho, resolve, hcal, hargs', hts', invoke, builtin, Builtin.cap_, run_underlying hu, r5, goInt]
        · rename_i hex
          simp at hp; subst hp
          rw [hex] at rx
          simp only [Rel] at rx
          refine ⟨.int .i64 0, fun w => ?_, by simp [Rel]⟩
          simp [execOp, ho, resolve, hcal, hargs', hts', invoke, builtin, Builtin.cap_, run_underlying hu, rx, goInt]
        · cases hp
      · cases hc
    · split at hc
      · split at hc
        · split at hc
          · obtain ⟨_, _, _, _, rfl⟩ := m2_some hc
            simp [puA] at hp
          · cases hc
        · cases hc
      · cases hc
    · cases hc
  · -- panic
    simp at hc; subst hc; simp [puA] at hp
  · cases hc
end
end Go.Abs

namespace Go.Abs

/-! ### Reading memory -/
/-- Bytes, as numbers. -/
def bytesOf : List AV → Option (List Nat)
  | [] => some []
  | .int .u8 (.ofNat b) :: l => if b < 256 then match bytesOf l with
    | some r => some (b :: r)
    | none => none
    else none
  | _ => none

def ldA (e : AX → AV) (H : AHeap) (op : AOp) : Option AV :=
  match op with
  | .load ag n a => match e a with
    | .ptr id off => match PT.get id H with
      | some (.cells _ l) => match ag with
        | true => match takeN n (l.drop off) with
          | some r => some (.agg r)
          | none => none
        | false => nthL off l
      | _ => none
    | _ => none
  | .slA len s x lo hi => match e x with
    | .ptr id off => match PT.get id H with
      | some (.cells _ c) =>
        if off + len * s ≤ lenL c then
          match bnd (lo.map e) 0, bnd (hi.map e) len with
          | some l, some h =>
            if l ≤ h ∧ h ≤ len then
              if l < len then frcN (off + l * s) fun o => frcN (h - l) fun n => frcN (len - l) fun c => some (.sl id o n true c s)
              else some (.sl id off 0 true 0 s)
            else none
          | _, _ => none
        else none
      | _ => none
    | _ => none
  | .b2s x => match e x with
    | .nilsl => some (.str [])
    | .sl id off len _ _ es => if es = 1 then match PT.get id H with
      | some (.cells _ l) => match takeN len (l.drop off) with
        | some r => match bytesOf r with
          | some s => some (.str s)
          | none => none
        | none => none
      | _ => none
      else none
    | _ => none
  | _ => none

/-! ### New blocks -/
def resA (nx : Pos) : Option (Nat × Bool × Nat × Nat) → AV
  | none => .ptr nx 0
  | some (len, ex, cap, es) => .sl nx 0 len ex cap es

def repL (z : List AV) : Nat → List AV
  | 0 => []
  | n + 1 => z ++ repL z n

def alA (e : AX → AV) (op : AOp) : Option (List AV × Option (Nat × Bool × Nat × Nat)) :=
  match op with
  | .new z => some (z, none)
  | .box x => match (e x).flat with
    | true => some ((e x).cells, none)
    | false => none
  | .mksl z len es ps => match fillA e ps z with
    | some l => some (l, some (len, true, len, es))
    | none => none
  | .s2b x => match e x with
    | .str l => some (l.map fun b => .int .u8 (.ofNat b), some (lenN l, false, lenN l, 1))
    | _ => none
  | _ => none

section
variable {P : Program} {ρ : Env} {gs : List Nat} {e : AX → AV} {η : Operand → Value} {B : Base} {H : AHeap} {w : World}

/-- The shapes of what 'cop' makes. -/
def XOp.tag : XOp → Nat
  | .mksz _ _ _ => 32
  | .mkmap => 34
  | .look _ _ _ => 35
  | .mset _ => 36
  | .iter => 37
  | .next => 38
  | .ifnil _ => 39
  | .sl0 _ => 40

def AOp.tag : AOp → Nat
  | .mov _ => 0
  | .pick _ _ _ => 1
  | .new _ => 2
  | .box _ => 3
  | .build _ _ => 4
  | .mksl _ _ _ _ => 5
  | .load _ _ _ => 6
  | .store _ _ _ => 7
  | .nilchk _ => 8
  | .bin _ _ _ _ _ => 9
  | .un _ _ => 10
  | .cvi _ _ => 11
  | .cvs _ => 12
  | .s2b _ => 13
  | .b2s _ => 14
  | .mkif _ _ => 15
  | .mkfn _ _ _ => 16
  | .slS _ _ _ _ => 17
  | .slStr _ _ _ => 18
  | .slA _ _ _ _ _ => 19
  | .fadr _ _ => 20
  | .fld _ _ _ _ => 21
  | .ixS _ _ _ => 22
  | .ixA _ _ _ _ => 23
  | .ixv _ _ _ _ _ => 24
  | .ixstr _ _ => 25
  | .extr _ _ => 26
  | .call _ _ => 27
  | .len _ _ => 28
  | .cap _ => 29
  | .app _ _ _ _ => 30
  | .copy _ _ _ _ => 31
  | .ext q _ => q.tag
  | .bad => 33

def Op.tags : Op → List Nat
  | .move _ => [0]
  | .assign _ => [0]
  | .pick _ _ _ => [1]
  | .alloc _ => [2]
  | .box _ _ => [3]
  | .build _ _ => [4]
  | .buildSlice _ _ _ => [5, 40]
  | .load _ _ => [6]
  | .store _ _ _ => [7]
  | .nilCheck _ => [8]
  | .binOp _ _ _ _ _ => [9, 39]
  | .unOp _ _ _ => [10]
  | .convert _ _ _ => [11, 12, 13, 14]
  | .makeInterface _ _ => [15]
  | .makeFunc _ _ _ => [16]
  | .slice _ _ _ _ _ => [17, 18, 19]
  | .fieldAddr _ _ _ => [20]
  | .field _ _ _ => [21]
  | .indexAddr _ _ _ => [22, 23]
  | .index _ _ _ => [24, 25]
  | .extract _ _ => [26]
  | .call _ => [27, 28, 29, 30, 31]
  | .makeSlice _ _ _ => [32]
  | .makeMap _ _ => [34]
  | .lookup _ _ _ _ => [35]
  | .mapUpdate _ _ _ _ => [36]
  | .range _ _ => [37]
  | .next _ _ => [38]
  | .panic _ => [33]
  | _ => []

theorem cop_tag {o : Oper} {ao : AOp} (hc : cop P gs o = some ao) : ao.tag ∈ Op.tags o.op := by
  unfold cop at hc
  split at hc
  all_goals first
    | (cases hc; done)
    | skip
  all_goals rename_i ho
  all_goals rw [ho]
  all_goals simp only [Op.tags]
  all_goals try unfold cbuild at hc
  all_goals try unfold cmksl csl0 at hc
  all_goals try unfold cconv at hc
  all_goals try unfold cslice at hc
  all_goals try unfold cixaddr at hc
  all_goals try unfold cindex at hc
  all_goals try unfold ccall at hc
  all_goals repeat' split at hc
  all_goals first
    | (cases hc; done)
    | (simp only [Option.map_eq_some_iff] at hc; obtain ⟨_, _, rfl⟩ := hc; simp [AOp.tag, XOp.tag]; done)
    | (obtain ⟨_, _, _, _, rfl⟩ := m2_some hc; simp [AOp.tag]; done)
    | (obtain ⟨_, _, _, _, _, _, rfl⟩ := m3_some hc; simp [AOp.tag]; done)
    | (simp only [Option.some.injEq] at hc; subst hc; simp [AOp.tag, XOp.tag]; done)

theorem cop_load {o : Oper} {ag : Bool} {n : Nat} {ax : AX} (hc : cop P gs o = some (.load ag n ax)) : ∃ t x, o.op = .load t x ∧ agOf P t = some ag ∧ szOf P t = some n ∧ cox gs x = some ax := by
  have ht := cop_tag hc
  cases ho : o.op <;> rw [ho] at ht <;> simp [Op.tags, AOp.tag] at ht
  rename_i t x
  simp only [cop, ho] at hc
  split at hc
  · rename_i h1 h2 h3
    simp at hc
    obtain ⟨rfl, rfl, rfl⟩ := hc
    exact ⟨t, x, rfl, h1, h2, h3⟩
  · cases hc

theorem cop_slA {o : Oper} {n s : Nat} {ax : AX} {al ah : Option AX} (hc : cop P gs o = some (.slA n s ax al ah)) :
    ∃ t x lo hi el, o.op = .slice t x lo hi none ∧ P.underlying t = some (.array n el) ∧ szOf P el = some s ∧ cox gs x = some ax ∧ coxo gs lo = some al ∧ coxo gs hi = some ah := by
  have ht := cop_tag hc
  cases ho : o.op <;> rw [ho] at ht <;> simp [Op.tags, AOp.tag] at ht
  rename_i t x lo hi mx
  simp only [cop, ho] at hc
  unfold cslice at hc
  split at hc
  · rename_i h1 h2 h3
    split at hc
    · rename_i hu
      simp only [Option.map_eq_some_iff] at hc
      obtain ⟨s', hs, hq⟩ := hc
      cases hq
      exact ⟨t, x, lo, hi, _, rfl, hu, hs, h1, h2, h3⟩
    · cases hc
    · simp only [Option.map_eq_some_iff] at hc
      obtain ⟨s', hs, hq⟩ := hc
      cases hq
    · cases hc
  · cases hc

theorem cop_b2s {o : Oper} {ax : AX} (hc : cop P gs o = some (.b2s ax)) : ∃ s d x el, o.op = .convert s d x ∧ P.underlying s = some (.slice el) ∧ P.underlying d = some .string ∧ P.underlying el = some (.int .u8) ∧ cox gs x = some ax := by
  have ht := cop_tag hc
  cases ho : o.op <;> rw [ho] at ht <;> simp [Op.tags, AOp.tag] at ht
  rename_i s d x
  simp only [cop, ho] at hc
  unfold cconv at hc
  split at hc
  · simp only [Option.map_eq_some_iff] at hc
    obtain ⟨_, _, hq⟩ := hc
    cases hq
  · simp only [Option.map_eq_some_iff] at hc
    obtain ⟨_, _, hq⟩ := hc
    cases hq
  · split at hc
    · simp only [Option.map_eq_some_iff] at hc
      obtain ⟨_, _, hq⟩ := hc
      cases hq
    · cases hc
  · rename_i el hs hd
    split at hc
    · rename_i hel
      simp only [Option.map_eq_some_iff] at hc
      obtain ⟨_, hx, hq⟩ := hc
      cases hq
      refine ⟨s, d, x, el, rfl, hs, hd, ?_, hx⟩
      unfold isU8 at hel
      split at hel
      · assumption
      · cases hel
    · cases hc
  · cases hc

theorem bytesOf_spec : ∀ {l : List AV} {s : List Nat} {cs : List Value}, bytesOf l = some s → RelL ρ l cs → cs = (s.map (Int.ofNat ·)).map (Value.int .u8) ∧ ∀ b ∈ s, b < 256
  | [], s, cs, h, r => by
    simp [bytesOf] at h; subst h
    simp only [RelL] at r; subst r
    simp
  | a :: l, s, cs, h, r => by
    unfold bytesOf at h
    split at h
    · rename_i heq; cases heq
    · rename_i b l' heq
      cases heq
      split at h
      · rename_i hb
        split at h
        · rename_i r' hr'
          simp at h; subst h
          simp only [RelL, Rel] at r
          obtain ⟨v, vs, rfl, rfl, r⟩ := r
          obtain ⟨rfl, h2⟩ := bytesOf_spec hr' r
          refine ⟨by simp, fun x hx => ?_⟩
          rcases List.mem_cons.1 hx with rfl | hx
          · exact hb
          · exact h2 x hx
        · cases h
      · cases h
    · cases h

theorem foldl_push : ∀ (s : List Nat) (r : ByteArray), (∀ b ∈ s, b < 256) → ((s.map (Int.ofNat ·)).foldl (fun r n => r.push (UInt8.ofNat n.toNat)) r).data.toList.map UInt8.toNat = r.data.toList.map UInt8.toNat ++ s
  | [], r, _ => by simp
  | b :: s, r, h => by
    simp only [List.map_cons, List.foldl_cons]
    rw [foldl_push s _ (fun x hx => h x (by simp [hx]))]
    have hb := h b (by simp)
    have : (r.push (UInt8.ofNat (Int.ofNat b).toNat)).data.toList.map UInt8.toNat = r.data.toList.map UInt8.toNat ++ [b] := by
      simp [ByteArray.push]
      omega
    rw [this]; simp

theorem addr_add (b o n : Nat) : (⟨b, o, none⟩ : Addr).add n = ⟨b, o + n, none⟩ := Addr.add_lit b o n

theorem lift_value {s : Sem Value} {v' : Value} {w w' : World} (h : s.run P w = .ok v' w') : (do pure (.value (← s)) : Sem Next).run P w = .ok (.value v') w' := by simp [h]

theorem ld_sound {o : Oper} {ao : AOp} {v : AV} (hS : Sim B ρ H w) (hE : Evs gs ρ e η) (hc : cop P gs o = some ao) (hp : ldA e H ao = some v) :
    ∃ v', (execOp η o).run P w = .ok (.value v') w ∧ Rel ρ v v' := by
  unfold ldA at hp
  split at hp
  · -- load
    rename_i ag n a
    obtain ⟨t, x, ho, h1, h2, h3⟩ := cop_load hc
    have rx := hE _ _ h3
    split at hp
    · rename_i id off hex
      rw [hex] at rx
      simp only [Rel] at rx
      obtain ⟨b, o', m, r1, r2⟩ := rx
      split at hp
      · rename_i ro l hg
        split at hp
        · split at hp
          · rename_i r hr
            simp at hp; subst hp
            obtain ⟨cs, c1, c2, c3⟩ := hS.load hg r1 hr
            refine ⟨.agg cs.toArray, ?_, by simp only [Rel]; exact ⟨_, rfl, by simpa using c2⟩⟩
            simp only [execOp, ho]
            refine lift_value ?_
            have := run_loadCells_list (P := P) w ⟨b, o' + off, none⟩ cs c3
            rw [c1] at this
            simp [Instr.loadAt, r2, Instr.sureAddr, loadVar, run_isAgg w h1, run_sizeOf w h2, this]
          · cases hp
        · rw [nthL_eq] at hp
          obtain ⟨b', o2, m', e1, _, _, e4, _⟩ := hS.cells _ _ _ hg
          rw [r1] at e1; cases e1
          obtain ⟨c, hc', hr⟩ := e4 _ _ hp
          refine ⟨c, ?_, hr⟩
          simp only [execOp, ho]
          refine lift_value ?_
          simp [Instr.loadAt, r2, Instr.sureAddr, loadVar, run_isAgg w h1, hc']
      · cases hp
    · cases hp
  · -- slA
    rename_i len s ax al ah
    obtain ⟨t, x, lo, hi, el, ho, hu, hs, h1, h2, h3⟩ := cop_slA hc
    have rx := hE _ _ h1
    split at hp
    · rename_i id off hex
      rw [hex] at rx
      simp only [Rel] at rx
      obtain ⟨b, o', m, r1, r2⟩ := rx
      split at hp
      · rename_i ro l hg
        obtain ⟨b', o2, m', e1, _, _, _, e5, _⟩ := hS.cells _ _ _ hg
        rw [r1] at e1; cases e1
        split at hp
        · rename_i hroom
          rw [lenL_eq] at hroom
          split at hp
          · rename_i lb hb b1 b2
            split at hp
            · rename_i hle
              have hsb := sliceBounds_run (P := P) (cap := len) hE h2 h3 b1 b2 hle.1 hle.2 false w
              have key : (Instr.sliceAt t (η x) (lo.map η) (hi.map η) none).run P w = .ok (.slice (some (if len = lb then ⟨b, o' + off, none⟩ else ⟨b, o' + off + lb * s, none⟩)) (hb - lb) (len - lb)) w := by
                simp [Instr.sliceAt, run_underlying hu, r2, Instr.sureAddr, hsb, run_sizeOf w hs, addr_add]
              split at hp
              · rename_i hlt
                rw [frcN_eq, frcN_eq, frcN_eq] at hp
                simp at hp; subst hp
                refine ⟨_, by simp only [execOp, ho]; exact lift_value key, ?_⟩
                rw [if_neg (by omega)]
                simp only [Rel]
                refine ⟨b, o', m, len - lb, r1, Nat.le_refl _, fun _ => rfl, ?_, by rw [Nat.add_assoc]⟩
                have : lb * s + (len - lb) * s = len * s := by rw [← Nat.add_mul]; congr 1; omega
                omega
              · simp at hp; subst hp
                refine ⟨_, by simp only [execOp, ho]; exact lift_value key, ?_⟩
                rw [if_pos (by omega)]
                simp only [Rel]
                refine ⟨b, o', m, 0, r1, Nat.le_refl _, fun _ => rfl, by omega, ?_⟩
                rw [show hb - lb = 0 by omega, show len - lb = 0 by omega]
            · cases hp
          · cases hp
        · cases hp
      · cases hp
    · cases hp
  · -- b2s
    rename_i ax
    obtain ⟨src, dst, x, el, ho, hs, hd, he, hx⟩ := cop_b2s hc
    have rx := hE _ _ hx
    split at hp
    · rename_i hex
      simp at hp; subst hp
      rw [hex] at rx
      simp only [Rel] at rx
      refine ⟨.string .empty, ?_, by simp only [Rel]; exact ⟨_, rfl, rfl⟩⟩
      simp only [execOp, ho]
      refine lift_value ?_
      rw [rx, run_convert_bytes_string w src dst el _ _ _ hs he hd]
      simp [Conv.bytesToString]
    · rename_i id off len ex cap es hex
      rw [hex] at rx
      simp only [Rel] at rx
      obtain ⟨b, o', m, c, r1, r2, r3, r4, r5⟩ := rx
      split at hp
      · split at hp
        · rename_i ro l hg
          split at hp
          · rename_i r hr
            split at hp
            · rename_i s hsb
              simp at hp; subst hp
              obtain ⟨cs, c1, c2, c3⟩ := hS.load hg r1 hr
              obtain ⟨rfl, hlt⟩ := bytesOf_spec hsb c2
              have hl := run_loadCells_list (P := P) w ⟨b, o' + off, none⟩ _ c3
              rw [c1] at hl
              refine ⟨.string ((s.map (Int.ofNat ·)).foldl (fun r n => r.push (UInt8.ofNat n.toNat)) ByteArray.empty), ?_, ?_⟩
              · simp only [execOp, ho]
                refine lift_value ?_
                rw [r5, run_convert_bytes_string w src dst el _ _ _ hs he hd]
                exact run_bytesToString w _ _ _ _ hl
              · simp only [Rel]
                refine ⟨_, rfl, ?_⟩
                rw [foldl_push s _ hlt]; simp
            · cases hp
          · cases hp
        · cases hp
      · cases hp
    · cases hp
  · cases hp

theorem fillA_length : ∀ (ps : List (Nat × Nat × AX)) (z z' : List AV), fillA e ps z = some z' → z'.length = z.length
  | [], z, z', h => by simp [fillA] at h; rw [h]
  | (off, n, x) :: ps, z, z', h => by
    simp only [fillA] at h
    split at h
    · split at h
      · split at h
        · rename_i z1 hz
          rw [fillA_length ps z1 z' h, (putL_spec hz).1]
        · cases h
      · cases h
    · cases h

theorem ofVals_length : ∀ (vs : List Value) (l : List AV), ofVals vs = some l → l.length = vs.length
  | [], l, h => by simp [ofVals] at h; rw [h]; rfl
  | v :: vs, l, h => by
    simp only [ofVals] at h
    split at h
    · rename_i a m h1 h2
      simp at h; subst h
      simp [ofVals_length vs m h2]
    · cases h

theorem cop_new {o : Oper} {z : List AV} (hc : cop P gs o = some (.new z)) : ∃ t, o.op = .alloc t ∧ zeroOf P t = some z := by
  have ht := cop_tag hc
  cases ho : o.op <;> rw [ho] at ht <;> simp [Op.tags, AOp.tag] at ht
  rename_i t
  simp only [cop, ho, Option.map_eq_some_iff] at hc
  obtain ⟨z', hz, hq⟩ := hc
  cases hq
  exact ⟨t, rfl, hz⟩

theorem cop_box {o : Oper} {ax : AX} (hc : cop P gs o = some (.box ax)) : ∃ t x, o.op = .box t x ∧ cox gs x = some ax := by
  have ht := cop_tag hc
  cases ho : o.op <;> rw [ho] at ht <;> simp [Op.tags, AOp.tag] at ht
  rename_i t x
  simp only [cop, ho, Option.map_eq_some_iff] at hc
  obtain ⟨z', hz, hq⟩ := hc
  cases hq
  exact ⟨t, x, rfl, hz⟩

theorem cop_s2b {o : Oper} {ax : AX} (hc : cop P gs o = some (.s2b ax)) : ∃ s d x el, o.op = .convert s d x ∧ P.underlying s = some .string ∧ P.underlying d = some (.slice el) ∧ P.underlying el = some (.int .u8) ∧ cox gs x = some ax := by
  have ht := cop_tag hc
  cases ho : o.op <;> rw [ho] at ht <;> simp [Op.tags, AOp.tag] at ht
  rename_i s d x
  simp only [cop, ho] at hc
  unfold cconv at hc
  split at hc
  · simp only [Option.map_eq_some_iff] at hc
    obtain ⟨_, _, hq⟩ := hc
    cases hq
  · simp only [Option.map_eq_some_iff] at hc
    obtain ⟨_, _, hq⟩ := hc
    cases hq
  · rename_i el hs hd
    split at hc
    · rename_i hel
      simp only [Option.map_eq_some_iff] at hc
      obtain ⟨_, hx, hq⟩ := hc
      cases hq
      refine ⟨s, d, x, el, rfl, hs, hd, ?_, hx⟩
      unfold isU8 at hel
      split at hel
      · assumption
      · cases hel
    · cases hc
  · split at hc
    · simp only [Option.map_eq_some_iff] at hc
      obtain ⟨_, _, hq⟩ := hc
      cases hq
    · cases hc
  · cases hc

theorem cop_mksl {o : Oper} {z : List AV} {len es : Nat} {ps : List (Nat × Nat × AX)} (hc : cop P gs o = some (.mksl z len es ps)) :
    ∃ t el parts zv, o.op = .buildSlice t len parts ∧ P.underlying t = some (.slice el) ∧ szOf P el = some es ∧ (P.info? el).bind (·.zero) = some zv ∧ len * es ≤ 2 ^ 24 ∧ 0 < len * es ∧
      ofVals (((Array.range (len * es)).map (zv.cells[· % zv.cells.size]!)).toList) = some z ∧ cparts gs (fun i => some (i * es, es)) parts.toList = some ps := by
  have ht := cop_tag hc
  cases ho : o.op <;> rw [ho] at ht <;> simp [Op.tags, AOp.tag] at ht
  rename_i t len' parts
  simp only [cop, ho] at hc
  split at hc
  · unfold csl0 at hc
    repeat' split at hc
    all_goals first
      | (cases hc; done)
      | (simp at hc; done)
  unfold cmksl at hc
  split at hc
  · rename_i el hu
    split at hc
    · rename_i size zv hs hz
      split at hc
      · rename_i hle
        split at hc
        · rename_i z' ps' hz' hps
          simp at hc
          obtain ⟨rfl, rfl, rfl, rfl⟩ := hc
          exact ⟨t, el, parts, zv, rfl, hu, hs, hz, hle.1, hle.2, hz', hps⟩
        · cases hc
      · cases hc
    · cases hc
  · cases hc

/-- A new block. -/
theorem al_sound {o : Oper} {ao : AOp} {l : List AV} {r : Option (Nat × Bool × Nat × Nat)} {nx : Pos} (hS : Sim B ρ H w) (hn : ρ nx = none) (hE : Evs gs ρ e η) (hc : cop P gs o = some ao) (hp : alA e ao = some (l, r)) :
    ∃ v' w' m, (execOp η o).run P w = .ok (.value v') w' ∧ Sim B (ρ.set nx (w.heap.size, 0, m)) (PT.put nx (some (.cells false l)) H) w' ∧
      Step ρ H nx w (ρ.set nx (w.heap.size, 0, m)) (PT.put nx (some (.cells false l)) H) nx.succ w' ∧ Rel (ρ.set nx (w.heap.size, 0, m)) (resA nx r) v' := by
  unfold alA at hp
  split at hp
  · rename_i z
    simp at hp
    obtain ⟨rfl, rfl⟩ := hp
    obtain ⟨t, ho, hz⟩ := cop_new hc
    obtain ⟨zv, hzv, hzr⟩ := run_zeroValue (P := P) (ρ := ρ) hz
    refine ⟨.pointer (some ⟨w.heap.size, 0, none⟩), w.alloc (.cells zv.cells t), (zv.cells.toList ++ []).length, ?_, ?_, Step.alloc hn _ _ _, ?_⟩
    · simp only [execOp, ho]
      refine lift_value ?_
      simp [Instr.alloc, hzv, newVar, newRow]
    · have := hS.alloc hn hzr t []
      simpa using this
    · simp only [resA, Rel]
      exact ⟨_, _, _, Env.set_same _ _ _, rfl⟩
  · rename_i x
    split at hp
    · rename_i hfl
      simp at hp
      obtain ⟨rfl, rfl⟩ := hp
      obtain ⟨t, x', ho, hx⟩ := cop_box hc
      have hr := (hE _ _ hx).cells hfl
      refine ⟨.pointer (some ⟨w.heap.size, 0, none⟩), w.alloc (.cells (η x').cells t), ((η x').cells.toList ++ []).length, ?_, ?_, Step.alloc hn _ _ _, ?_⟩
      · simp only [execOp, ho]
        refine lift_value ?_
        simp [Instr.box, newVar, newRow]
      · have := hS.alloc hn hr t []
        simpa using this
      · simp only [resA, Rel]
        exact ⟨_, _, _, Env.set_same _ _ _, rfl⟩
    · cases hp
  · rename_i z len es ps
    split at hp
    · rename_i l' hl
      simp at hp
      obtain ⟨rfl, rfl⟩ := hp
      obtain ⟨t, el, parts, zv, ho, hu, hs, hz, hle, hpos, hz', hps⟩ := cop_mksl hc
      obtain ⟨i, hi, hzero⟩ := Option.bind_eq_some_iff.1 hz
      obtain ⟨cs', hf, hr⟩ := fillA_sound hE _ _ _ _ _ ((Array.range (len * es)).map (zv.cells[· % zv.cells.size]!)) hps hl (ofVals_rel hz')
      refine ⟨.slice (some ⟨w.heap.size, 0, none⟩) len len, w.alloc (.cells cs' el), (cs'.toList ++ []).length, ?_, ?_, Step.alloc hn _ _ _, ?_⟩
      · simp only [execOp, ho]
        refine lift_value ?_
        have hne : ¬ (len * es = 0) := by omega
        have hbig : ¬ (16777216 < len * es) := by omega
        simp only [Instr.buildSlice, Sem.run_bind, run_underlying hu, Result.andThen_ok, run_sizeOf w hs]
        simp [hne, hbig, zeroValue, typeInfo, hi, hzero]
        simp at hf
        rw [hf]
        simp [newRow]
      · have := hS.alloc hn hr el []
        simpa using this
      · simp only [resA, Rel]
        refine ⟨_, _, _, len, Env.set_same _ _ _, Nat.le_refl _, fun _ => rfl, ?_, by simp⟩
        have h1 := hr.length
        have h2 := fillA_length _ _ _ hl
        have h3 := ofVals_length _ _ hz'
        simp at h3
        simp; simp at h1; omega
    · cases hp
  · rename_i x
    split at hp
    · rename_i s hex
      simp at hp
      obtain ⟨rfl, rfl⟩ := hp
      obtain ⟨src, dst, x', el, ho, hs, hd, he, hx⟩ := cop_s2b hc
      have rx := hE _ _ hx
      rw [hex] at rx
      simp only [Rel] at rx
      obtain ⟨u, hu, hb⟩ := rx
      have hrun := run_bytes_of_string (P := P) w src dst el u hs hd he
      have hcap := grownCap_ge w u.size 0 el
      have hsz := str_size hb
      have hrow : bytesRow u (grownCap w u.size 0 el) = ((u.data.toList.map fun b : UInt8 => Value.int .u8 (b.toNat : Int)) ++ List.replicate (grownCap w u.size 0 el - u.size) (Value.int .u8 0)).toArray := by
        apply Array.ext'
        simp [bytesRow]
      rw [hrow] at hrun
      have hlen : ((u.data.toList.map fun b : UInt8 => Value.int .u8 (b.toNat : Int)) ++ List.replicate (grownCap w u.size 0 el - u.size) (Value.int .u8 0)).length = grownCap w u.size 0 el := by
        simp; omega
      have hrel : RelL ρ (s.map fun b => AV.int .u8 (.ofNat b)) (u.data.toList.map fun b : UInt8 => Value.int .u8 (b.toNat : Int)) := by
        subst hb
        refine RelL.of_get (by simp) fun i a v ha hv => ?_
        simp at ha hv
        obtain ⟨x1, h1, rfl⟩ := ha
        obtain ⟨x2, h2, rfl⟩ := hv
        rw [h1] at h2; cases h2
        simp [Rel]
      refine ⟨_, _, _, by simp only [execOp, ho, hu]; exact lift_value hrun, hS.drew.alloc hn hrel el _ _ ?_, (Step.alloc (w := w.drew) hn _ _ _).of_drew, ?_⟩
      · intro i hi
        simp at hi ⊢
        omega
      · simp only [resA, Rel]
        refine ⟨_, _, _, grownCap w u.size 0 el, Env.set_same _ _ _, by rw [lenN_eq]; omega, by simp, ?_, by simp [lenN_eq, hsz]⟩
        rw [hlen]; omega
    · cases hp
  · cases hp
end
end Go.Abs

namespace Go.Abs

def allOne : List AV → Bool
  | [] => true
  | a :: l => match a.one with
    | true => allOne l
    | false => false

theorem allOne_spec : ∀ {l : List AV}, allOne l = true → ∀ x ∈ l, x.one = true
  | [], _, x, hx => by cases hx
  | a :: l, h, x, hx => by
    simp only [allOne] at h
    split at h
    · rename_i ha
      rcases List.mem_cons.1 hx with rfl | hx
      · exact ha
      · exact allOne_spec h x hx
    · cases h

def stA (e : AX → AV) (H : AHeap) (n : Nat) (a x : AX) : Option AHeap :=
  match e a with
  | .ptr id off => match PT.get id H with
    | some (.cells false l) => match (e x).flat with
      | true =>
        if lenL (e x).cells = n then
          match allOne (e x).cells with
          | true => match putL off (e x).cells l with
            | some l' => some (PT.put id (some (.cells false l')) H)
            | none => none
          | false => none
        else none
      | false => none
    | _ => none
  | _ => none

/-- The cells of what is appended, and how many elements they are. -/
def srcA (n : Nat) (H : AHeap) (x : AV) : Option (Nat × List AV) :=
  match x with
  | .nilsl => some (0, [])
  | .sl id off len _ _ es => if es = n then match PT.get id H with
    | some (.cells _ l) => match takeN (len * n) (l.drop off) with
      | some r => some (len, r)
      | none => none
    | _ => none
    else none
  | _ => none

def apA (H : AHeap) (nx : Pos) (n b : Nat) (s x : AV) : Option (AV × AHeap × Pos) :=
  match srcA n H x with
  | some (m, news) => match allOne news with
    | true => match s with
      | .nilsl =>
        if m = 0 then some (.nilsl, H, nx)
        else if m * b ≤ 140737488355328 ∧ m ≤ 4611686018427387904 then frcN m fun m => some (.sl nx 0 m false m n, PT.put nx (some (.cells false news)) H, nx.succ)
        else none
      | .sl id off len ex cap es =>
        if es = n ∧ len ≤ cap then
          if m = 0 then some (.sl id off len ex cap es, H, nx)
          else if len + m ≤ cap then
            match PT.get id H with
            | some (.cells false l) => match putL (off + len * n) news l with
              | some l' => frcN (len + m) fun k => some (.sl id off k ex cap es, PT.put id (some (.cells false l')) H, nx)
              | none => none
            | _ => none
          else if (len + m) * b ≤ 140737488355328 ∧ len + m ≤ 4611686018427387904 then
            match PT.get id H with
            | some (.cells ro l) => match takeN (len * n) (l.drop off) with
              | some olds => match ex with
                | true => frcN (len + m) fun k => some (.sl nx 0 k false k n, PT.put nx (some (.cells false (olds ++ news))) H, nx.succ)
                | false => match ro with
                  | false => frcN (len + m) fun k => some (.sl nx 0 k false k n, PT.put nx (some (.cells false (olds ++ news))) (PT.put id none H), nx.succ)
                  | true => none
              | none => none
            | _ => none
          else none
        else none
      | _ => none
    | false => none
  | none => none

section
variable {P : Program} {ρ : Env} {gs : List Nat} {e : AX → AV} {η : Operand → Value} {B : Base} {H : AHeap} {w : World}

theorem cop_store {o : Oper} {n : Nat} {a x : AX} (hc : cop P gs o = some (.store n a x)) : ∃ t a' x', o.op = .store t a' x' ∧ szOf P t = some n ∧ cox gs a' = some a ∧ cox gs x' = some x := by
  have ht := cop_tag hc
  cases ho : o.op <;> rw [ho] at ht <;> simp [Op.tags, AOp.tag] at ht
  rename_i t a' x'
  simp only [cop, ho] at hc
  split at hc
  · rename_i n' hn
    obtain ⟨p, q, h1, h2, hq⟩ := m2_some hc
    cases hq
    exact ⟨t, a', x', rfl, hn, h1, h2⟩
  · cases hc

theorem st_sound {o : Oper} {n : Nat} {a x : AX} {H' : AHeap} (nx : Pos) (hS : Sim B ρ H w) (hE : Evs gs ρ e η) (hc : cop P gs o = some (.store n a x)) (hp : stA e H n a x = some H') :
    ∃ w', (execOp η o).run P w = .ok .skip w' ∧ Sim B ρ H' w' ∧ Step ρ H nx w ρ H' nx w' := by
  obtain ⟨t, a', x', ho, hn, h1, h2⟩ := cop_store hc
  have ra := hE _ _ h1
  have rx := hE _ _ h2
  unfold stA at hp
  split at hp
  · rename_i id off hex
    rw [hex] at ra
    simp only [Rel] at ra
    obtain ⟨b, o', m, r1, r2⟩ := ra
    split at hp
    · rename_i l hg
      split at hp
      · rename_i hfl
        split at hp
        · rename_i hlen
          split at hp
          · rename_i hone
            split at hp
            · rename_i l' hl'
              simp at hp; subst hp
              have hr := rx.cells hfl
              obtain ⟨s1, s2, s3⟩ := hS.store hg r1 hl' hr (allOne_spec hone) (P := P) nx
              refine ⟨_, ?_, s2, s3⟩
              have hsz : (η x').cells.size = n := by
                have := hr.length
                rw [lenL_eq] at hlen
                simp at this; omega
              simp [execOp, ho, Instr.storeAt, r2, Instr.sureAddr, storeVar, hsz, run_sizeOf w hn, s1]
            · cases hp
          · cases hp
        · cases hp
      · cases hp
    · cases hp
  · cases hp

/-- A block goes over into a new name, while cells behind it are written. -/
theorem Sim.move (hS : Sim B ρ H w) {id nx : Pos} {l l2 : List AV} {cs : List Value} {b o m p q : Nat} (hg : PT.get id H = some (.cells false l)) (r : ρ id = some (b, o, m)) (hn : ρ nx = none)
    (hp : p + cs.length ≤ m) (hq : q ≤ m) (hone : ∀ c ∈ cs, c.oneCell' = true) (hlen : q + l2.length ≤ m)
    (hl2 : ∀ i v, l2[i]? = some v → ∃ c, (setRow w b (o + p) cs).cell? ⟨b, o + q + i, none⟩ = some c ∧ Rel ρ v c) {P : Program} :
    (storeCells ⟨b, o + p, none⟩ cs).run P w = .ok () (setRow w b (o + p) cs) ∧
    Sim B (ρ.set nx (b, o + q, m - q)) (PT.put nx (some (.cells false l2)) (PT.put id none H)) (setRow w b (o + p) cs) ∧
      Step ρ H nx w (ρ.set nx (b, o + q, m - q)) (PT.put nx (some (.cells false l2)) (PT.put id none H)) nx.succ (setRow w b (o + p) cs) := by
  obtain ⟨b', o', m', e1, e2, e3, e4, e40, e41⟩ := hS.cells id false l hg
  rw [r] at e1; cases e1
  have hle : ρ.le (ρ.set nx (b, o + q, m - q)) := Env.set_le hn
  have hsome : ∀ j, j < cs.length → (w.cell? ⟨b, o + p + 0 + j, none⟩).isSome = true := by
    intro j hj
    rw [show o + p + 0 + j = o + (p + j) by omega]; exact (e41 rfl _ (by omega)).1
  have hfro : ∀ j, j < cs.length → w.frozen? ⟨b, o + p + 0 + j, none⟩ = false := by
    intro j hj
    rw [show o + p + 0 + j = o + (p + j) by omega]; exact (e41 rfl _ (by omega)).2
  have hown : Own ρ H b := ⟨id, _, _, hg, rfl, r⟩
  have hnid : nx ≠ id := fun q => by rw [q, r] at hn; cases hn
  have other : ∀ {j : Pos} {k : Blk} {b2 : Nat} {o2 : Nat × Nat}, PT.get j H = some k → j ≠ id → ρ j = some (b2, o2) → b2 ≠ b := by
    intro j k b2 o2 hj hne hr hb
    subst hb
    exact hS.inj j id _ _ _ _ _ hj hg hne hr r
  have hheap : ∀ k, k ≠ b → (setRow w b (o + p) cs).heap[k]? = w.heap[k]? := fun k hk => setRow_other b cs _ w k hk
  have hcell : ∀ {b2 : Nat}, b2 ≠ b → ∀ i, (setRow w b (o + p) cs).cell? ⟨b2, i, none⟩ = w.cell? ⟨b2, i, none⟩ := fun hb i => by
    unfold World.cell?
    rw [hheap _ hb]
  refine ⟨?_, ?_, ?_⟩
  · have := run_storeCells (P := P) b (o + p) cs 0 w hsome hfro hone
    simpa using this
  · refine ⟨by rw [setRow_size]; exact hS.base, fun j ro l3 e5 => ?_, fun j k e5 hk => ?_, fun i j x y b2 o2 p2 hi hj hne r1 r2 => ?_, fun b2 hb2 => by rw [hheap _ (fun q => by subst q; have := e3.own rfl; omega)]; exact hS.low b2 hb2⟩
    · by_cases hj : j = nx
      · subst hj
        rw [PT.get_put_same] at e5; cases e5
        refine ⟨b, o + q, m - q, Env.set_same _ _ _, by rw [setRow_size]; exact e2, e3, fun i v hv => ?_, by omega, fun _ i hi => ?_⟩
        · obtain ⟨c, hc, hr⟩ := hl2 i v hv
          exact ⟨c, hc, hr.mono hle⟩
        · rw [setRow_frozen, setRow_cell b cs (o + p) w (o + q + i) (fun j hj => by simpa using hsome j hj), show o + q + i = o + (q + i) by omega]
          refine ⟨?_, (e41 rfl (q + i) (by omega)).2⟩
          split
          · rw [List.getElem?_eq_getElem (by omega)]; rfl
          · exact (e41 rfl (q + i) (by omega)).1
      · rw [PT.get_put_other _ _ _ _ hj] at e5
        by_cases hji : j = id
        · subst hji; rw [PT.get_put_same] at e5; cases e5
        · rw [PT.get_put_other _ _ _ _ hji] at e5
          obtain ⟨b2, o2, m2, q1, q2, q3, q4, q5, q6⟩ := hS.cells j ro l3 e5
          have hb := other e5 hji q1
          refine ⟨b2, o2, m2, hle _ _ q1, by rw [setRow_size]; exact q2, q3, fun i v hv => ?_, q5, fun hro i hi => ?_⟩
          · rw [hcell hb]
            obtain ⟨c, hc, hr⟩ := q4 i v hv
            exact ⟨c, hc, hr.mono hle⟩
          · rw [hcell hb, setRow_frozen]; exact q6 hro i hi
    · by_cases hj : j = nx
      · subst hj; rw [PT.get_put_same] at e5; cases e5; cases hk
      · rw [PT.get_put_other _ _ _ _ hj] at e5
        by_cases hji : j = id
        · subst hji; rw [PT.get_put_same] at e5; cases e5
        · rw [PT.get_put_other _ _ _ _ hji] at e5
          obtain ⟨b2, m2, ob, q1, q2, q3, q4⟩ := hS.objs j k e5 hk
          have hb := other e5 hji q1
          exact ⟨b2, m2, ob, hle _ _ q1, q2, by rw [hheap _ hb]; exact q3, q4.mono hle⟩
    · have f : ∀ (k : Pos) (z : Blk), PT.get k (PT.put nx (some (.cells false l2)) (PT.put id none H)) = some z → k = nx ∨ (k ≠ nx ∧ k ≠ id ∧ PT.get k H = some z) := by
        intro k z hz
        by_cases hk : k = nx
        · exact .inl hk
        · rw [PT.get_put_other _ _ _ _ hk] at hz
          by_cases hk2 : k = id
          · subst hk2; rw [PT.get_put_same] at hz; cases hz
          · rw [PT.get_put_other _ _ _ _ hk2] at hz; exact .inr ⟨hk, hk2, hz⟩
      rcases f i x hi with rfl | ⟨i1, i2, i3⟩
      · rcases f j y hj with rfl | ⟨j1, j2, j3⟩
        · exact hne rfl
        · rw [Env.set_same] at r1; cases r1
          rw [Env.set_other _ _ j1] at r2
          exact other j3 j2 r2 rfl
      · rw [Env.set_other _ _ i1] at r1
        rcases f j y hj with rfl | ⟨j1, j2, j3⟩
        · rw [Env.set_same] at r2; cases r2
          exact other i3 i2 r1 rfl
        · rw [Env.set_other _ _ j1] at r2
          exact hS.inj i j x y _ _ _ i3 j3 hne r1 r2
  · obtain ⟨s1, s2, s3⟩ := setRow_same b cs (o + p) w
    refine ⟨hle, fun k q1 q2 => ?_, by rw [setRow_size]; exact Nat.le_refl _, s1, s2, s3, fun k hk ho => ?_, fun k ho hk => ?_, fun k z hz => ?_⟩
    · by_cases hk : k = nx
      · subst hk; rw [Pos.toNat_succ]; omega
      · rw [Env.set_other _ _ hk] at q2; exact absurd q1 q2
    · exact hheap k (fun q => by subst q; exact ho hown)
    · obtain ⟨j, k', o2, q1, q2, q3⟩ := ho
      by_cases hj : j = nx
      · subst hj; rw [Env.set_same] at q3; cases q3; exact hown
      · rw [PT.get_put_other _ _ _ _ hj] at q1
        rw [Env.set_other _ _ hj] at q3
        by_cases hji : j = id
        · subst hji; rw [PT.get_put_same] at q1; cases q1
        · rw [PT.get_put_other _ _ _ _ hji] at q1; exact ⟨j, k', o2, q1, q2, q3⟩
    · by_cases hk : k = nx
      · subst hk; exact .inr ⟨Nat.le_refl _, by rw [Pos.toNat_succ]; omega⟩
      · rw [PT.get_put_other _ _ _ _ hk] at hz
        by_cases hki : k = id
        · subst hki; rw [PT.get_put_same] at hz; cases hz
        · rw [PT.get_put_other _ _ _ _ hki] at hz; exact .inl ⟨_, hz⟩
end
end Go.Abs
