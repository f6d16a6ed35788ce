/- The abstract interpreter, part P: code, calls, ranges over functions. -/
import Derived.Test.YteofddgoedkhcaaGreatDoorAbsO
namespace Go.Abs

def DrawOK (P : Program) (gs : List Nat) (B : Base) (cf : CallR) (yf : YieldR) : Prop :=
  ∀ (N rid : Nat) (ops : Array Oper) (dl : List (Nat × Nat × AOper)) (T : PT AV) (H : AHeap) (nx : Pos) (T' : PT AV) (H' : AHeap) (nx' : Pos), cdrw P gs N ops = some (.drw dl) → drwA cf yf dl [] T H nx = some (T', H', nx') →
    nx.toNat ≤ nx'.toNat ∧ ∀ (ρ : Env) (w : World) (a : Act), Sim B ρ H w → Fresh ρ nx nx' → Glob gs ρ → RelA ρ T a.tmps → N ≤ a.tmps.size → ∀ (n : Nat) (r : Option Nat) (Q : Exit → Act → World → Prop),
      (∀ ρ' a' w', Sim B ρ' H' w' → Step ρ H nx w ρ' H' nx' w' → RelA ρ' T' a'.tmps → a'.tmps.size = a.tmps.size → a'.defers = a.defers → Q .normal a' w') → (Code.region rid ops true).wpIn (Wd r) n P Q a w

/-- The marks of the ranges over functions, among the deferred calls. -/
def RelD (ρ : Env) : List Pos → List Deferred → Prop
  | [], ds => ds = []
  | id :: D, ds => ∃ b m ds', ds = { target := .collected b, args := #[] } :: ds' ∧ ρ id = some (b, 0, m) ∧ RelD ρ D ds'

theorem RelD.mono {ρ ρ' : Env} (h : ρ.le ρ') : ∀ {D : List Pos} {ds : List Deferred}, RelD ρ D ds → RelD ρ' D ds
  | [], _, r => r
  | _ :: _, _, ⟨b, m, ds', e, e2, r⟩ => ⟨b, m, ds', e, h _ _ e2, r.mono h⟩

def AEx.toExit : AEx → Exit
  | .normal => .normal
  | .exit i => .exit i
  | .ret => .ret

/-- In which round the code runs. -/
def Rnd (ρ : Env) (rd : Option Pos) (r : Option Nat) : Prop := (rd = none ∧ r = none) ∨ ∃ id b o, rd = some id ∧ r = some b ∧ ρ id = some (b, o)

theorem Rnd.mono {ρ ρ' : Env} (h : ρ.le ρ') {rd : Option Pos} {r : Option Nat} (q : Rnd ρ rd r) : Rnd ρ' rd r := by
  rcases q with q | ⟨id, b, o, e1, e2, e3⟩
  · exact .inl q
  · exact .inr ⟨id, b, o, e1, e2, h _ _ e3⟩

structure CodeSpec (P : Program) (gs : List Nat) (B : Base) (N : Nat) (c : Code) (rd : Option Pos) (s : St) (x : AEx) (s' : St) : Prop where
  le : s.nx.toNat ≤ s'.nx.toNat
  spec : ∀ (ρ : Env) (w : World) (a : Act), Sim B ρ s.H w → Fresh ρ s.nx s'.nx → Glob gs ρ → RelA ρ s.T a.tmps → N ≤ a.tmps.size → RelD ρ s.D a.defers → ∀ (n : Nat) (r : Option Nat), Rnd ρ rd r → ∀ (Q : Exit → Act → World → Prop),
    (∀ ρ' a' w', Sim B ρ' s'.H w' → Step ρ s.H s.nx w ρ' s'.H s'.nx w' → RelA ρ' s'.T a'.tmps → a'.tmps.size = a.tmps.size → RelD ρ' s'.D a'.defers → Q x.toExit a' w') → c.wpIn (Wd r) n P Q a w

def ExecSpec (P : Program) (gs : List Nat) (B : Base) (ex : ExecR) : Prop :=
  ∀ (N : Nat) (c : Code) (ac : AC) (rd : Option Pos) (s : St) (x : AEx) (s' : St), cc P gs N c = some ac → ex ac rd s = some (x, s') → CodeSpec P gs B N c rd s x s'

section
variable {P : Program} {gs : List Nat} {B : Base}

/-! ### The end of a function -/
theorem Step.le_ext {ρ ρ' : Env} {H H' : AHeap} {nx nx' : Pos} {w w' : World} (h : Step ρ H nx w ρ' H' nx' w') : ρ.le ρ' := h.ext

theorem loadVar_sound {ρ : Env} {H : AHeap} {w : World} {t : TypeId} {ag : Bool} {n b o' m off : Nat} {id : Pos} {v : AV} (hS : Sim B ρ H w) (h1 : agOf P t = some ag) (h2 : szOf P t = some n) (r1 : ρ id = some (b, o', m))
    (hp : ldA (fun _ => .ptr id off) H (.load ag n (.t .h)) = some v) : ∃ cv, (loadVar t ⟨b, o' + off, none⟩).run P w = .ok cv w ∧ Rel ρ v cv := by
  simp only [ldA] at hp
  split at hp
  · rename_i ro l hg
    cases ag with
    | true =>
      simp only at hp
      split at hp
      · rename_i r hr
        simp at hp; subst hp
        obtain ⟨cs, c1, c2, c3⟩ := hS.load hg r1 hr
        refine ⟨.agg cs.toArray, ?_, by simp only [Rel]; exact ⟨_, rfl, by simpa using c2⟩⟩
        have := run_loadCells_list (P := P) w ⟨b, o' + off, none⟩ cs c3
        rw [c1] at this
        simp [loadVar, run_isAgg w h1, run_sizeOf w h2, this]
      · cases hp
    | false =>
      simp only [nthL_eq] at hp
      obtain ⟨b', o2, m', e1, _, _, e4, _⟩ := hS.cells _ _ _ hg
      rw [r1] at e1; cases e1
      obtain ⟨c, hc', hr⟩ := e4 _ _ hp
      refine ⟨c, ?_, hr⟩
      simp [loadVar, run_isAgg w h1, hc']
  · cases hp

theorem results_run {ρ : Env} {H : AHeap} {w : World} {T : PT AV} {tmps : Array Value} (hS : Sim B ρ H w) (hT : RelA ρ T tmps) : ∀ (rs : List ResultVar) (ars : List ARes) (l : List AV),
    rs.mapM (cres P) = some ars → resOf T H ars = some l →
    ∃ cs : List Value, (rs.mapM (fun (r : ResultVar) => (match r with | .tmp t => pure (tmps.getD t undef) | .cell a t => do loadVar t (← asAddr (tmps.getD a undef)) : Sem Value))).run P w = .ok cs w ∧ RelL ρ l cs
  | [], ars, l, h1, h2 => by
    simp at h1; subst h1
    simp [resOf] at h2; subst h2
    exact ⟨[], by simp, RelL.nil⟩
  | r :: rs, ars, l, h1, h2 => by
    simp only [List.mapM_cons, Option.bind_eq_bind, Option.bind_eq_some_iff] at h1
    obtain ⟨ar, ha, ars', hars, h1⟩ := h1
    simp at h1; subst h1
    cases r with
    | tmp t =>
      simp only [cres, Option.some.injEq] at ha; subst ha
      simp only [resOf] at h2
      split at h2
      · rename_i l' hl
        simp at h2; subst h2
        obtain ⟨cs, e1, e2⟩ := results_run hS hT rs ars' l' hars hl
        refine ⟨tmps.getD t undef :: cs, ?_, RelL.cons (hT t) e2⟩
        simp only [List.mapM_cons, Sem.run_bind, Sem.run_pure, Result.andThen_ok, e1]
      · cases h2
    | cell c t =>
      simp only [cres] at ha
      split at ha
      · rename_i ag n hag hn
        simp at ha; subst ha
        simp only [resOf] at h2
        split at h2
        · rename_i v l' hv hl
          simp at h2; subst h2
          obtain ⟨cs, e1, e2⟩ := results_run hS hT rs ars' l' hars hl
          have hp := hT c
          simp only [ldA] at hv
          split at hv
          · rename_i id off hex
            have hex' : evT T (Pos.ofNat c) = .ptr id off := hex
            rw [hex'] at hp
            simp only [Rel] at hp
            obtain ⟨b, o', m, r1, r2⟩ := hp
            obtain ⟨cv, q3, q2⟩ := loadVar_sound (P := P) (off := off) (v := v) hS hag hn r1 hv
            refine ⟨cv :: cs, ?_, RelL.cons q2 e2⟩
            have q4 : (asAddr (tmps.getD c undef)).run P w = .ok ⟨b, o' + off, none⟩ w := by rw [r2]; rfl
            simp only [List.mapM_cons, Sem.run_bind, q4, Result.andThen_ok, q3, e1, Sem.run_pure]
          · cases hv
        · cases h2
      · cases ha

theorem results_ok {ρ : Env} {H : AHeap} {w : World} {T : PT AV} {tmps : Array Value} {fn : Func} {ars : List ARes} {l : List AV} (hS : Sim B ρ H w) (hT : RelA ρ T tmps)
    (h1 : fn.results.toList.mapM (cres P) = some ars) (h2 : resOf T H ars = some l) : ∃ v, (results fn tmps).run P w = .ok v w ∧ Rel ρ (tupOf l) v := by
  obtain ⟨cs, e1, e2⟩ := results_run (P := P) hS hT _ _ _ h1 h2
  have e3 : (fn.results.mapM (fun (r : ResultVar) => (match r with | .tmp t => pure (tmps.getD t undef) | .cell a t => do loadVar t (← asAddr (tmps.getD a undef)) : Sem Value))).run P w = .ok cs.toArray w := by
    rw [Array.mapM_eq_mapM_toList, Sem.run_map, e1]; rfl
  have hlen := e2.length
  by_cases h1' : cs.length = 1
  · obtain ⟨v, rfl⟩ := List.length_eq_one_iff.1 h1'
    obtain ⟨a, rfl⟩ := List.length_eq_one_iff.1 (hlen.trans h1')
    refine ⟨v, ?_, ?_⟩
    · have key : ∀ X : Result (Array Value), X = .ok #[v] w → (X.andThen fun a w' => (Pure.pure (if h : a.size = 1 then a[0] else .tuple a) : Sem Value).run P w') = .ok v w := by
        intro X hX; rw [hX]; simp
      simp only [results, Sem.run_bind]
      exact key _ e3
    · simp only [RelL, List.cons.injEq] at e2
      obtain ⟨_, _, ⟨rfl, _⟩, hr, _⟩ := e2
      exact hr
  · refine ⟨.tuple cs.toArray, ?_, ?_⟩
    · have key : ∀ X : Result (Array Value), X = .ok cs.toArray w → (X.andThen fun a w' => (Pure.pure (if h : a.size = 1 then a[0] else .tuple a) : Sem Value).run P w') = .ok (.tuple cs.toArray) w := by
        intro X hX; rw [hX]; simp [h1']
      simp only [results, Sem.run_bind]
      exact key _ e3
    · have : tupOf l = .tup l := by
        cases l with
        | nil => rfl
        | cons a l => cases l with
          | nil => simp at hlen; omega
          | cons b l => rfl
      rw [this]
      simp only [Rel]
      exact ⟨_, rfl, by simpa using e2⟩

theorem unmark_ok {fn : Func} {tmps : Array Value} {R : Ending → World → Prop} {n : Nat} (nx : Pos) : ∀ (D : List Pos) (H H' : AHeap) (ρ : Env) (w : World) (ds : List Deferred), unmark D H = some H' → Sim B ρ H w → RelD ρ D ds →
    (∀ w', Sim B ρ H' w' → Step ρ H nx w ρ H' nx w' → LeavesInM (Wd none) n P fn tmps R [] .returning w') → LeavesInM (Wd none) n P fn tmps R ds .returning w
  | [], H, H', ρ, w, ds, h, hS, hD, hk => by
    simp [unmark] at h; subst h
    simp only [RelD] at hD; subst hD
    exact hk w hS (Step.refl _ _ _ _)
  | id :: D, H, H', ρ, w, ds, h, hS, hD, hk => by
    simp only [unmark] at h
    split at h
    · rename_i hg
      obtain ⟨b, m, ds', rfl, e2, hD'⟩ := hD
      obtain ⟨b', m', ob, q1, q2, q3, q4⟩ := hS.objs id .dfr hg rfl
      rw [e2] at q1; cases q1
      have q4 : ob = .deferred (some []) := q4
      subst q4
      obtain ⟨s1, s2⟩ := hS.putObj (k := none) (o := .deferred none) hg rfl e2 (fun _ h => by cases h) nx
      refine ⟨by simp, .inl ⟨b, _, rfl, run_takeDeferred q3, ?_⟩⟩
      exact unmark_ok nx D _ H' ρ _ ds' h s1 hD' fun w' s3 s4 => hk w' s3 (s2.trans s4 (Nat.le_refl _) (Nat.le_refl _))
    · cases h

theorem bindT_rel {ρ : Env} : ∀ (vs : List AV) (cs : List Value) (n : Nat) (T : PT AV) (pre : List Value), RelL ρ vs cs → pre.length = n → (∀ t, t < n → Rel ρ (evT T (Pos.ofNat t)) (pre.getD t undef)) → (∀ t, n ≤ t → PT.get (Pos.ofNat t) T = none) →
    (∀ t, t < n + vs.length → Rel ρ (evT (bindT vs n T) (Pos.ofNat t)) ((pre ++ cs).getD t undef)) ∧ ∀ t, n + vs.length ≤ t → PT.get (Pos.ofNat t) (bindT vs n T) = none
  | [], cs, n, T, pre, h, hp, h1, h2 => by
    simp only [RelL] at h; subst h
    simpa [bindT] using ⟨h1, h2⟩
  | v :: vs, cs, n, T, pre, h, hp, h1, h2 => by
    simp only [RelL] at h
    obtain ⟨c, cs', rfl, hv, h⟩ := h
    have := bindT_rel vs cs' (n + 1) (PT.put (Pos.ofNat n) (some v) T) (pre ++ [c]) h (by simp [hp]) (by
      intro t ht
      by_cases hn : t = n
      · subst hn
        simp only [evT, PT.get_put_same]
        rw [List.getD_eq_getElem?_getD, List.getElem?_append_right (by omega)]
        simpa [hp] using hv
      · have hne : Pos.ofNat t ≠ Pos.ofNat n := fun q => hn (Pos.ofNat_inj q)
        have := h1 t (by omega)
        simp only [evT, PT.get_put_other _ _ _ _ hne] at this ⊢
        rw [List.getD_eq_getElem?_getD, List.getElem?_append_left (by omega), ← List.getD_eq_getElem?_getD]
        exact this) (by
      intro t ht
      have hne : Pos.ofNat t ≠ Pos.ofNat n := fun q => by have := Pos.ofNat_inj q; omega
      rw [PT.get_put_other _ _ _ _ hne]
      exact h2 t (by omega))
    simp only [List.append_assoc, List.singleton_append] at this
    simp only [bindT, List.length_cons]
    exact ⟨fun t ht => this.1 t (by omega), fun t ht => this.2 t (by omega)⟩

theorem args_rel {ρ : Env} {args : List AV} {cargs : Array Value} (h : RelL ρ args cargs.toList) (N : Nat) : RelA ρ (bindT args 0 .lf) (cargs ++ Array.replicate (N - cargs.size) undef) := by
  obtain ⟨h1, h2⟩ := bindT_rel args cargs.toList 0 .lf [] h rfl (fun t ht => by omega) (fun t _ => PT.get_lf _)
  have hlen := h.length
  simp at hlen
  intro t
  by_cases ht : t < args.length
  · have := h1 t (by omega)
    simp only [List.nil_append] at this
    rw [Array.getD_eq_getD_getElem?, Array.getElem?_append_left (by omega)]
    rw [List.getD_eq_getElem?_getD, Array.getElem?_toList] at this
    exact this
  · have := h2 t (by omega)
    simp only [evT, this]
    have hu : (cargs ++ Array.replicate (N - cargs.size) undef).getD t undef = undef := by
      rw [Array.getD_eq_getD_getElem?, Array.getElem?_append_right (by omega), Array.getElem?_replicate]
      split <;> rfl
    rw [hu]; exact rel_undef

end
end Go.Abs
