/- The abstract interpreter, part N: one operation, in the kit's calculus. -/
import Derived.Test.YteofddgoedkhcaaGreatDoorAbsX
namespace Go.Abs

/-- No fence; in a round of a range over a function, or in none. -/
def Wd (r : Option Nat) : Fence := { fn := fun _ => True, depth := none, alive := false, round := r }

theorem callsIn_Wd {r : Option Nat} {n : Nat} {P : Program} {f : FuncId} {args : Array Value} {w : World} {R : Ending → World → Prop} (h : Calls P f args w R) : CallsIn (Wd r) n P f args w R :=
  callsIn_wide.2 h

theorem calls_of_Wd {r : Option Nat} {n : Nat} {P : Program} {f : FuncId} {args : Array Value} {w : World} {R : Ending → World → Prop} (h : CallsIn (Wd r) n P f args w R) : Calls P f args w R :=
  callsIn_wide.1 h

/-- The package-level variables that are read. -/
def Glob (gs : List Nat) (ρ : Env) : Prop := ∀ g ∈ gs, ∃ m, ρ (Pos.ofNat g) = some (g, 0, m)

theorem Glob.mono {gs : List Nat} {ρ ρ' : Env} (h : Glob gs ρ) (hl : ρ.le ρ') : Glob gs ρ' := fun g hg => by
  obtain ⟨m, e⟩ := h g hg
  exact ⟨m, hl _ _ e⟩

/-- What a call comes to. -/
def CPost (B : Base) (ρ : Env) (H : AHeap) (nx : Pos) (w : World) (r : AV) (H' : AHeap) (nx' : Pos) : Ending → World → Prop :=
  fun e w' => ∃ v ρ', e = .returned v ∧ Sim B ρ' H' w' ∧ Step ρ H nx w ρ' H' nx' w' ∧ Rel ρ' r v

structure CallSpec (P : Program) (gs : List Nat) (B : Base) (f : Nat) (args : List AV) (H : AHeap) (nx : Pos) (r : AV) (H' : AHeap) (nx' : Pos) : Prop where
  le : nx.toNat ≤ nx'.toNat
  fn : ∃ fn, P.funcs[f]? = some fn ∧ (fn.name == "runtime.NumGoroutine") = false ∧ fn.body.isNone = false
  spec : ∀ (ρ : Env) (w : World) (cargs : Array Value), Sim B ρ H w → Fresh ρ nx nx' → Glob gs ρ → RelL ρ args cargs.toList → Calls P f cargs w (CPost B ρ H nx w r H' nx')

def CallsOK (P : Program) (gs : List Nat) (B : Base) (cf : CallR) : Prop := ∀ f args H nx r H' nx', cf f args H nx = some (r, H', nx') → CallSpec P gs B f args H nx r H' nx'

/-- What a round comes to. -/
structure YieldSpec (P : Program) (gs : List Nat) (B : Base) (id : Pos) (args : List AV) (H : AHeap) (nx : Pos) (r : AV) (H' : AHeap) (nx' : Pos) : Prop where
  le : nx.toNat ≤ nx'.toNat
  spec : ∀ (ρ : Env) (w : World) (cargs : Array Value), Sim B ρ H w → Fresh ρ nx nx' → Glob gs ρ → RelL ρ args cargs.toList → ∀ b o, ρ id = some (b, o) →
    ∃ l : Loop, w.heap[b]? = some (.loop l) ∧ cargs.size = l.params.size ∧ ∀ n r', RoundIn (Wd r') n P b l.fn ((l.params.zip cargs).foldl (fun tmps (t, a) => tmps.setIfInBounds t a) l.tmps) l.assign l.body w (CPost B ρ H nx w r H' nx')

def YieldsOK (P : Program) (gs : List Nat) (B : Base) (yf : YieldR) : Prop := ∀ id args H nx r H' nx', yf id args H nx = some (r, H', nx') → YieldSpec P gs B id args H nx r H' nx'

section
variable {P : Program} {gs : List Nat} {B : Base}

theorem evs_of {ρ : Env} {T : PT AV} {a : Act} (hT : RelA ρ T a.tmps) (hG : Glob gs ρ) : Evs gs ρ (ev T) a.eval := by
  intro x ax hx
  cases x with
  | tmp t =>
    simp only [cox, Option.some.injEq] at hx; subst hx
    exact hT t
  | const v =>
    simp only [cox, Option.map_eq_some_iff] at hx
    obtain ⟨c, hc, rfl⟩ := hx
    exact ofConst_rel hc
  | global g =>
    simp only [cox] at hx
    split at hx
    · rename_i hg
      simp at hx; subst hx
      obtain ⟨m, e⟩ := hG g (by simpa using hg)
      simp only [ev, Rel]
      exact ⟨g, 0, m, e, rfl⟩
    · cases hx
  | func f =>
    simp only [cox, Option.some.injEq] at hx; subst hx
    simp only [ev, Rel]
    exact ⟨#[], #[], rfl, RelL.nil, RelL.nil⟩

theorem cop_call {o : Oper} {g : AX} {args : List AX} (hc : cop P gs o = some (.call g args)) : ∃ c f, o.op = .call c ∧ c.callee = .value f ∧ cox gs f = some g ∧ coxs gs c.args.toList = some args := by
  have ht := cop_tag hc
  cases ho : o.op <;> rw [ho] at ht <;> simp [Op.tags, AOp.tag] at ht
  rename_i c
  simp only [cop, ho] at hc
  unfold ccall at hc
  split at hc
  · rename_i f hf
    obtain ⟨p, q, h1, h2, hq⟩ := m2_some hc
    cases hq
    exact ⟨c, f, rfl, hf, h1, h2⟩
  · split at hc
    · simp only [Option.map_eq_some_iff] at hc
      obtain ⟨_, _, hq⟩ := hc
      cases hq
    · simp only [Option.map_eq_some_iff] at hc
      obtain ⟨_, _, hq⟩ := hc
      cases hq
    · cases hc
  · split at hc
    · simp only [Option.map_eq_some_iff] at hc
      obtain ⟨_, _, hq⟩ := hc
      cases hq
    · cases hc
  · split at hc
    · split at hc
      · split at hc
        · obtain ⟨_, _, _, _, hq⟩ := m2_some hc
          cases hq
        · cases hc
      · cases hc
    · cases hc
  · cases hc

theorem cop_defer {o : Oper} {ao : AOp} (hc : cop P gs o = some ao) : ∀ c, o.op ≠ .defer c := by
  intro c h
  have ht := cop_tag hc
  rw [h] at ht
  simp [Op.tags] at ht

theorem about_wide {r : Option Nat} (o : Oper) (w : World) (η : Operand → Value) : ∀ f, o.about P w η = some f → (Wd r).fn f := fun _ _ => trivial

/-- An operation that hands back a value at once. -/
theorem wp_value {o : Oper} {ao : AOp} {a : Act} {w w' : World} {v' : Value} {r : Option Nat} {n : Nat} {K : Act → World → Prop} {Q : Exit → Act → World → Prop} (hc : cop P gs o = some ao)
    (hr : (execOp a.eval o).run P w = .ok (.value v') w') (hK : K (a.put o.dst v') w') : o.wpIn (Wd r) n P a w K Q := by
  refine ⟨about_wide o w _, ?_⟩
  rw [Oper.semAt_eq _ _ _ (cop_defer hc), hr]
  exact hK

theorem op_sound {cf : CallR} {yf : YieldR} (hcf : CallsOK P gs B cf) (hyf : YieldsOK P gs B yf) {o : Oper} {ao : AOp} {T : PT AV} {H H' : AHeap} {nx nx' : Pos} {v : AV} (hc : cop P gs o = some ao)
    (h : opA cf yf (ev T) H nx ao = some (v, H', nx')) :
    nx.toNat ≤ nx'.toNat ∧ ∀ (ρ : Env) (w : World) (a : Act), Sim B ρ H w → Fresh ρ nx nx' → Glob gs ρ → RelA ρ T a.tmps → ∀ (n : Nat) (r : Option Nat) (K : Act → World → Prop) (Q : Exit → Act → World → Prop),
      (∀ ρ' v' w', Sim B ρ' H' w' → Step ρ H nx w ρ' H' nx' w' → Rel ρ' v v' → K (a.put o.dst v') w') → o.wpIn (Wd r) n P a w K Q := by
  have pure : ∀ {u : Option AV}, (match u with | some v => some (v, H, nx) | none => none) = some (v, H', nx') → (∀ v, u = some v → ∀ (ρ : Env) (w : World) (a : Act), Sim B ρ H w → Evs gs ρ (ev T) a.eval → ∃ v', (execOp a.eval o).run P w = .ok (.value v') w ∧ Rel ρ v v') →
      nx.toNat ≤ nx'.toNat ∧ ∀ (ρ : Env) (w : World) (a : Act), Sim B ρ H w → Fresh ρ nx nx' → Glob gs ρ → RelA ρ T a.tmps → ∀ (n : Nat) (r : Option Nat) (K : Act → World → Prop) (Q : Exit → Act → World → Prop),
      (∀ ρ' v' w', Sim B ρ' H' w' → Step ρ H nx w ρ' H' nx' w' → Rel ρ' v v' → K (a.put o.dst v') w') → o.wpIn (Wd r) n P a w K Q := by
    intro u hu hs
    split at hu
    · rename_i v0
      simp at hu
      obtain ⟨rfl, rfl, rfl⟩ := hu
      refine ⟨Nat.le_refl _, fun ρ w a hS _ hG hT n r K Q hK => ?_⟩
      obtain ⟨v', e1, e2⟩ := hs _ rfl ρ w a hS (evs_of hT hG)
      exact wp_value hc e1 (hK ρ v' w hS (Step.refl _ _ _ _) e2)
    · cases hu
  have pu : (match puA (ev T) ao with | some v => some (v, H, nx) | none => none) = some (v, H', nx') →
      nx.toNat ≤ nx'.toNat ∧ ∀ (ρ : Env) (w : World) (a : Act), Sim B ρ H w → Fresh ρ nx nx' → Glob gs ρ → RelA ρ T a.tmps → ∀ (n : Nat) (r : Option Nat) (K : Act → World → Prop) (Q : Exit → Act → World → Prop),
      (∀ ρ' v' w', Sim B ρ' H' w' → Step ρ H nx w ρ' H' nx' w' → Rel ρ' v v' → K (a.put o.dst v') w') → o.wpIn (Wd r) n P a w K Q := fun hu =>
    pure hu fun v hv ρ w a _ hE => by
      obtain ⟨v', e1, e2⟩ := pu_sound hE hc hv
      exact ⟨v', e1 w, e2⟩
  have ld : (match ldA (ev T) H ao with | some v => some (v, H, nx) | none => none) = some (v, H', nx') →
      nx.toNat ≤ nx'.toNat ∧ ∀ (ρ : Env) (w : World) (a : Act), Sim B ρ H w → Fresh ρ nx nx' → Glob gs ρ → RelA ρ T a.tmps → ∀ (n : Nat) (r : Option Nat) (K : Act → World → Prop) (Q : Exit → Act → World → Prop),
      (∀ ρ' v' w', Sim B ρ' H' w' → Step ρ H nx w ρ' H' nx' w' → Rel ρ' v v' → K (a.put o.dst v') w') → o.wpIn (Wd r) n P a w K Q := fun hu =>
    pure hu fun v hv ρ w a hS hE => ld_sound hS hE hc hv
  have al : (match alA (ev T) ao with | some (l, r) => some (resA nx r, PT.put nx (some (.cells false l)) H, nx.succ) | none => none) = some (v, H', nx') →
      nx.toNat ≤ nx'.toNat ∧ ∀ (ρ : Env) (w : World) (a : Act), Sim B ρ H w → Fresh ρ nx nx' → Glob gs ρ → RelA ρ T a.tmps → ∀ (n : Nat) (r : Option Nat) (K : Act → World → Prop) (Q : Exit → Act → World → Prop),
      (∀ ρ' v' w', Sim B ρ' H' w' → Step ρ H nx w ρ' H' nx' w' → Rel ρ' v v' → K (a.put o.dst v') w') → o.wpIn (Wd r) n P a w K Q := by
    intro hu
    split at hu
    · rename_i l r0 hal
      simp at hu
      obtain ⟨rfl, rfl, rfl⟩ := hu
      refine ⟨by rw [Pos.toNat_succ]; omega, fun ρ w a hS hF hG hT n r K Q hK => ?_⟩
      have hn : ρ nx = none := hF nx (Nat.le_refl _) (by rw [Pos.toNat_succ]; omega)
      obtain ⟨v', w', m, e1, e2, e3, e4⟩ := al_sound hS hn (evs_of hT hG) hc hal
      exact wp_value hc e1 (hK _ v' w' e2 e3 e4)
    · cases hu
  cases ao <;> simp only [opA] at h
  case call g args =>
    obtain ⟨c, f, ho, hcal, h1, h2⟩ := cop_call hc
    split at h
    · rename_i fid fs cs hg
      have hs := hcf _ _ _ _ _ _ _ h
      refine ⟨hs.le, fun ρ w a hS hF hG hT n r K Q hK => ?_⟩
      have hE := evs_of hT hG
      have rf := hE _ _ h1
      rw [hg] at rf
      simp only [Rel] at rf
      obtain ⟨fs', cs', rv, r1, r2⟩ := rf
      have ra := hE.list h2
      obtain ⟨fn, e1, e2, e3⟩ := hs.fn
      have hcall := hs.spec ρ w (fs' ++ c.args.map a.eval ++ cs') hS hF hG (by
        rw [Array.append_assoc]
        simp only [Array.toList_append, Array.toList_map]
        exact r1.append (ra.append r2))
      refine ⟨about_wide o w _, ?_⟩
      rw [Oper.semAt_eq _ _ _ (cop_defer hc)]
      have hrun : (execOp a.eval o).run P w = .ok (.enter fid (fs' ++ c.args.map a.eval ++ cs')) w := by
        have hcf' : (callFunc fid (fs' ++ c.args.map a.eval ++ cs')).run P w = .ok (.enter fid (fs' ++ c.args.map a.eval ++ cs')) w := by
          simp only [callFunc, Sem.run_bind, run_program, Result.andThen_ok, e1]
          simp only [e2, e3, Bool.false_eq_true, if_false]
          rfl
        simp only [execOp, ho, resolve, hcal, rv, Deferred.ofValue, Sem.run_bind, Sem.run_pure, Result.andThen_ok, invoke]
        exact hcf'
      rw [hrun]
      refine ⟨(fun h => by cases h), callsIn_Wd (hcall.mono ?_)⟩
      rintro e w' ⟨v', ρ', rfl, q1, q2, q3⟩
      exact hK ρ' v' w' q1 q2 q3
    · rename_i id hg
      have hs := hyf _ _ _ _ _ _ _ h
      refine ⟨hs.le, fun ρ w a hS hF hG hT n r K Q hK => ?_⟩
      have hE := evs_of hT hG
      have rf := hE _ _ h1
      rw [hg] at rf
      simp only [Rel] at rf
      obtain ⟨b, o', m, q0, rv⟩ := rf
      have ra := hE.list h2
      obtain ⟨l, e1, e2, e3⟩ := hs.spec ρ w (c.args.map a.eval) hS hF hG (by rw [Array.toList_map]; exact ra) b (o', m) q0
      refine ⟨about_wide o w _, ?_⟩
      rw [Oper.semAt_eq _ _ _ (cop_defer hc)]
      have hrun : (execOp a.eval o).run P w = .ok (.round b l.fn ((l.params.zip (c.args.map a.eval)).foldl (fun tmps (t, a) => tmps.setIfInBounds t a) l.tmps) l.assign l.body) w := by
        have hz : (c.args.map a.eval).size = l.params.size := e2
        have hgl : (Instr.getLoop b).run P w = .ok l w := by
          simp [Instr.getLoop, getObj, Sem.run, e1]
        have hy : (Instr.yield b (c.args.map a.eval)).run P w = .ok (.round b l.fn ((l.params.zip (c.args.map a.eval)).foldl (fun tmps (t, a) => tmps.setIfInBounds t a) l.tmps) l.assign l.body) w := by
          unfold Instr.yield
          rw [Sem.run_bind, hgl]
          simp only [Result.andThen_ok, hz, ne_eq, not_true, if_false, Sem.run_pure]
        simp only [execOp, ho, resolve, hcal, rv, Deferred.ofValue, Sem.run_bind, Sem.run_pure, Result.andThen_ok, invoke]
        rw [show (#[] : Array Value) ++ c.args.map a.eval = c.args.map a.eval by simp]
        exact hy
      rw [hrun]
      refine ⟨(fun h => by cases h), (e3 (n - 1) r).mono ?_⟩
      rintro e w' ⟨v', ρ', rfl, q1, q2, q3⟩
      exact hK ρ' v' w' q1 q2 q3
    · cases h
  case store n0 x y =>
    split at h
    · rename_i H1 hst
      simp at h
      obtain ⟨rfl, rfl, rfl⟩ := h
      refine ⟨Nat.le_refl _, fun ρ w a hS hF hG hT n r K Q hK => ?_⟩
      obtain ⟨w', e1, e2, e3⟩ := st_sound nx hS (evs_of hT hG) hc hst
      refine ⟨about_wide o w _, ?_⟩
      rw [Oper.semAt_eq _ _ _ (cop_defer hc), e1]
      exact hK ρ undef w' e2 e3 (by simp only [undefA, Rel]; exact ⟨#[], rfl, RelL.nil⟩)
    · cases h
  case app n0 b0 s x =>
    have hx : ∀ (ρ : Env) (w : World) (a : Act), Sim B ρ H w → Glob gs ρ → RelA ρ T a.tmps → _ := fun ρ w a hS hG hT => ap_sound (P := P) (w := w) hS (evs_of hT hG) hc h
    refine ⟨?_, fun ρ w a hS hF hG hT n r K Q hK => ?_⟩
    · -- the names grow, whatever the world
      unfold apA at h
      repeat' split at h
      all_goals first
        | (cases h; done)
        | (simp only [frcN_eq, Option.some.injEq, Prod.mk.injEq] at h; obtain ⟨_, _, rfl⟩ := h; first | exact Nat.le_refl _ | (rw [Pos.toNat_succ]; omega))
    · obtain ⟨_, hsp⟩ := hx ρ w a hS hG hT
      obtain ⟨v', w', ρ', e1, e2, e3, e4⟩ := hsp hF
      exact wp_value hc e1 (hK ρ' v' w' e2 e3 e4)
  case load => exact ld h
  case slA => exact ld h
  case b2s => exact ld h
  case new z =>
    refine al ?_
    simp only [alA]; exact h
  case box => exact al h
  case mksl => exact al h
  case s2b => exact al h
  all_goals first
    | exact pu h
    | (simp only [puA] at h; cases h)
end
end Go.Abs
