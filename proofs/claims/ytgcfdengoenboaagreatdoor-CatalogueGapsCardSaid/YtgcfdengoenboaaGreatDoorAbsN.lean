/- The abstract interpreter, part N: one operation, in the kit's calculus. -/
import Derived.Test.YtgcfdengoenboaaGreatDoorAbsX
import Derived.Test.YtgcfdengoenboaaGreatDoorAbsM
namespace Go.Abs

/-- No fence; in a round of a range over a function, or in none. -/
def Wd (r : Option Nat) : Fence := { fn := fun _ => True, depth := none, alive := false, round := r }

theorem callsIn_Wd {r : Option Nat} {n : Nat} {P : Program} {f : FuncId} {args : Array Value} {w : World} {R : Ending → World → Prop} (h : Calls P f args w R) : CallsIn (Wd r) n P f args w R :=
  callsIn_wide.2 h

theorem calls_of_Wd {r : Option Nat} {n : Nat} {P : Program} {f : FuncId} {args : Array Value} {w : World} {R : Ending → World → Prop} (h : CallsIn (Wd r) n P f args w R) : Calls P f args w R :=
  callsIn_wide.1 h

/-- The package-level variables that are read. -/
def Glob (gs : List Nat) (ρ : Env) : Prop := ∀ g ∈ gs, ∃ m, ρ (Pos.ofNat g) = some (g, 0, m)

theorem Glob.mono {gs : List Nat} {ρ ρ' : Env} (h : Glob gs ρ) (hl : ρ.le ρ') : Glob gs ρ' := fun g hg => by
  obtain ⟨m, e⟩ := h g hg
  exact ⟨m, hl _ _ e⟩

/-- What a call comes to. -/
def CPost (B : Base) (ρ : Env) (H : AHeap) (nx : Pos) (w : World) (r : AV) (H' : AHeap) (nx' : Pos) : Ending → World → Prop :=
  fun e w' => ∃ v ρ', e = .returned v ∧ Sim B ρ' H' w' ∧ Step ρ H nx w ρ' H' nx' w' ∧ Rel ρ' r v

structure CallSpec (P : Program) (gs : List Nat) (B : Base) (f : Nat) (args : List AV) (H : AHeap) (nx : Pos) (r : AV) (H' : AHeap) (nx' : Pos) : Prop where
  le : nx.toNat ≤ nx'.toNat
  fn : ∃ fn, P.funcs[f]? = some fn ∧ (fn.name == "runtime.NumGoroutine") = false ∧ fn.body.isNone = false
  spec : ∀ (ρ : Env) (w : World) (cargs : Array Value), Sim B ρ H w → Fresh ρ nx nx' → Glob gs ρ → RelL ρ args cargs.toList → Calls P f cargs w (CPost B ρ H nx w r H' nx')

def CallsOK (P : Program) (gs : List Nat) (B : Base) (cf : CallR) : Prop := ∀ f args H nx r H' nx', cf f args H nx = some (r, H', nx') → CallSpec P gs B f args H nx r H' nx'

/-- What a round comes to. -/
structure YieldSpec (P : Program) (gs : List Nat) (B : Base) (id : Pos) (args : List AV) (H : AHeap) (nx : Pos) (r : AV) (H' : AHeap) (nx' : Pos) : Prop where
  le : nx.toNat ≤ nx'.toNat
  spec : ∀ (ρ : Env) (w : World) (cargs : Array Value), Sim B ρ H w → Fresh ρ nx nx' → Glob gs ρ → RelL ρ args cargs.toList → ∀ b o, ρ id = some (b, o) →
    ∃ l : Loop, w.heap[b]? = some (.loop l) ∧ cargs.size = l.params.size ∧ ∀ n r', RoundIn (Wd r') n P b l.fn ((l.params.zip cargs).foldl (fun tmps (t, a) => tmps.setIfInBounds t a) l.tmps) l.assign l.body w (CPost B ρ H nx w r H' nx')

def YieldsOK (P : Program) (gs : List Nat) (B : Base) (yf : YieldR) : Prop := ∀ id args H nx r H' nx', yf id args H nx = some (r, H', nx') → YieldSpec P gs B id args H nx r H' nx'

section
variable {P : Program} {gs : List Nat} {B : Base}

theorem evs_of {ρ : Env} {T : PT AV} {a : Act} (hT : RelA ρ T a.tmps) (hG : Glob gs ρ) : Evs gs ρ (ev T) a.eval := by
  intro x ax hx
  cases x with
  | tmp t =>
    simp only [cox, Option.some.injEq] at hx; subst hx
    exact hT t
  | const v =>
    simp only [cox, Option.map_eq_some_iff] at hx
    obtain ⟨c, hc, rfl⟩ := hx
    exact ofConst_rel hc
  | global g =>
    simp only [cox] at hx
    split at hx
    · rename_i hg
      simp at hx; subst hx
      obtain ⟨m, e⟩ := hG g (by simpa using hg)
      simp only [ev, Rel]
      exact ⟨g, 0, m, e, rfl⟩
    · cases hx
  | func f =>
    simp only [cox, Option.some.injEq] at hx; subst hx
    simp only [ev, Rel]
    exact ⟨#[], #[], rfl, RelL.nil, RelL.nil⟩

theorem cop_call {o : Oper} {g : AX} {args : List AX} (hc : cop P gs o = some (.call g args)) : ∃ c f, o.op = .call c ∧ c.callee = .value f ∧ cox gs f = some g ∧ coxs gs c.args.toList = some args := by
  have ht := cop_tag hc
  cases ho : o.op <;> rw [ho] at ht <;> simp [Op.tags, AOp.tag] at ht
  rename_i c
  simp only [cop, ho] at hc
  unfold ccall at hc
  split at hc
  · rename_i f hf
    obtain ⟨p, q, h1, h2, hq⟩ := m2_some hc
    cases hq
    exact ⟨c, f, rfl, hf, h1, h2⟩
  · split at hc
    · simp only [Option.map_eq_some_iff] at hc
      obtain ⟨_, _, hq⟩ := hc
      cases hq
    · simp only [Option.map_eq_some_iff] at hc
      obtain ⟨_, _, hq⟩ := hc
      cases hq
    · cases hc
  · split at hc
    · simp only [Option.map_eq_some_iff] at hc
      obtain ⟨_, _, hq⟩ := hc
      cases hq
    · cases hc
  · split at hc
    · split at hc
      · split at hc
        · obtain ⟨_, _, _, _, hq⟩ := m2_some hc
          cases hq
        · cases hc
      · cases hc
    · cases hc
  · cases hc

theorem cop_defer {o : Oper} {ao : AOp} (hc : cop P gs o = some ao) : ∀ c, o.op ≠ .defer c := by
  intro c h
  have ht := cop_tag hc
  rw [h] at ht
  simp [Op.tags] at ht

theorem about_wide {r : Option Nat} (o : Oper) (w : World) (η : Operand → Value) : ∀ f, o.about P w η = some f → (Wd r).fn f := fun _ _ => trivial

/-- An operation that hands back a value at once. -/
theorem wp_value {o : Oper} {ao : AOp} {a : Act} {w w' : World} {v' : Value} {r : Option Nat} {n : Nat} {K : Act → World → Prop} {Q : Exit → Act → World → Prop} (hc : cop P gs o = some ao)
    (hr : (execOp a.eval o).run P w = .ok (.value v') w') (hK : K (a.put o.dst v') w') : o.wpIn (Wd r) n P a w K Q := by
  refine ⟨about_wide o w _, ?_⟩
  rw [Oper.semAt_eq _ _ _ (cop_defer hc), hr]
  exact hK

theorem op_sound {cf : CallR} {yf : YieldR} (hcf : CallsOK P gs B cf) (hyf : YieldsOK P gs B yf) {o : Oper} {ao : AOp} {T : PT AV} {H H' : AHeap} {nx nx' : Pos} {v : AV} (hc : cop P gs o = some ao)
    (h : opA cf yf (ev T) H nx ao = some (v, H', nx')) :
    nx.toNat ≤ nx'.toNat ∧ ∀ (ρ : Env) (w : World) (a : Act), Sim B ρ H w → Fresh ρ nx nx' → Glob gs ρ → RelA ρ T a.tmps → ∀ (n : Nat) (r : Option Nat) (K : Act → World → Prop) (Q : Exit → Act → World → Prop),
      (∀ ρ' v' w', Sim B ρ' H' w' → Step ρ H nx w ρ' H' nx' w' → Rel ρ' v v' → K (a.put o.dst v') w') → o.wpIn (Wd r) n P a w K Q := by
  have pure : ∀ {u : Option AV}, (match u with | some v => some (v, H, nx) | none => none) = some (v, H', nx') → (∀ v, u = some v → ∀ (ρ : Env) (w : World) (a : Act), Sim B ρ H w → Evs gs ρ (ev T) a.eval → ∃ v', (execOp a.eval o).run P w = .ok (.value v') w ∧ Rel ρ v v') →
      nx.toNat ≤ nx'.toNat ∧ ∀ (ρ : Env) (w : World) (a : Act), Sim B ρ H w → Fresh ρ nx nx' → Glob gs ρ → RelA ρ T a.tmps → ∀ (n : Nat) (r : Option Nat) (K : Act → World → Prop) (Q : Exit → Act → World → Prop),
      (∀ ρ' v' w', Sim B ρ' H' w' → Step ρ H nx w ρ' H' nx' w' → Rel ρ' v v' → K (a.put o.dst v') w') → o.wpIn (Wd r) n P a w K Q := by
    intro u hu hs
    split at hu
    · rename_i v0
      simp at hu
      obtain ⟨rfl, rfl, rfl⟩ := hu
      refine ⟨Nat.le_refl _, fun ρ w a hS _ hG hT n r K Q hK => ?_⟩
      obtain ⟨v', e1, e2⟩ := hs _ rfl ρ w a hS (evs_of hT hG)
      exact wp_value hc e1 (hK ρ v' w hS (Step.refl _ _ _ _) e2)
    · cases hu
  have pu : (match puA (ev T) ao with | some v => some (v, H, nx) | none => none) = some (v, H', nx') →
      nx.toNat ≤ nx'.toNat ∧ ∀ (ρ : Env) (w : World) (a : Act), Sim B ρ H w → Fresh ρ nx nx' → Glob gs ρ → RelA ρ T a.tmps → ∀ (n : Nat) (r : Option Nat) (K : Act → World → Prop) (Q : Exit → Act → World → Prop),
      (∀ ρ' v' w', Sim B ρ' H' w' → Step ρ H nx w ρ' H' nx' w' → Rel ρ' v v' → K (a.put o.dst v') w') → o.wpIn (Wd r) n P a w K Q := fun hu =>
    pure hu fun v hv ρ w a _ hE => by
      obtain ⟨v', e1, e2⟩ := pu_sound hE hc hv
      exact ⟨v', e1 w, e2⟩
  have ld : (match ldA (ev T) H ao with | some v => some (v, H, nx) | none => none) = some (v, H', nx') →
      nx.toNat ≤ nx'.toNat ∧ ∀ (ρ : Env) (w : World) (a : Act), Sim B ρ H w → Fresh ρ nx nx' → Glob gs ρ → RelA ρ T a.tmps → ∀ (n : Nat) (r : Option Nat) (K : Act → World → Prop) (Q : Exit → Act → World → Prop),
      (∀ ρ' v' w', Sim B ρ' H' w' → Step ρ H nx w ρ' H' nx' w' → Rel ρ' v v' → K (a.put o.dst v') w') → o.wpIn (Wd r) n P a w K Q := fun hu =>
    pure hu fun v hv ρ w a hS hE => ld_sound hS hE hc hv
  have al : (match alA (ev T) ao with | some (l, r) => some (resA nx r, PT.put nx (some (.cells false l)) H, nx.succ) | none => none) = some (v, H', nx') →
      nx.toNat ≤ nx'.toNat ∧ ∀ (ρ : Env) (w : World) (a : Act), Sim B ρ H w → Fresh ρ nx nx' → Glob gs ρ → RelA ρ T a.tmps → ∀ (n : Nat) (r : Option Nat) (K : Act → World → Prop) (Q : Exit → Act → World → Prop),
      (∀ ρ' v' w', Sim B ρ' H' w' → Step ρ H nx w ρ' H' nx' w' → Rel ρ' v v' → K (a.put o.dst v') w') → o.wpIn (Wd r) n P a w K Q := by
    intro hu
    split at hu
    · rename_i l r0 hal
      simp at hu
      obtain ⟨rfl, rfl, rfl⟩ := hu
      refine ⟨by rw [Pos.toNat_succ]; omega, fun ρ w a hS hF hG hT n r K Q hK => ?_⟩
      have hn : ρ nx = none := hF nx (Nat.le_refl _) (by rw [Pos.toNat_succ]; omega)
      obtain ⟨v', w', m, e1, e2, e3, e4⟩ := al_sound hS hn (evs_of hT hG) hc hal
      exact wp_value hc e1 (hK _ v' w' e2 e3 e4)
    · cases hu
  cases ao <;> simp only [opA] at h
  case call g args =>
    obtain ⟨c, f, ho, hcal, h1, h2⟩ := cop_call hc
    split at h
    · rename_i fid fs cs hg
      have hs := hcf _ _ _ _ _ _ _ h
      refine ⟨hs.le, fun ρ w a hS hF hG hT n r K Q hK => ?_⟩
      have hE := evs_of hT hG
      have rf := hE _ _ h1
      rw [hg] at rf
      simp only [Rel] at rf
      obtain ⟨fs', cs', rv, r1, r2⟩ := rf
      have ra := hE.list h2
      obtain ⟨fn, e1, e2, e3⟩ := hs.fn
      have hcall := hs.spec ρ w (fs' ++ c.args.map a.eval ++ cs') hS hF hG (by
        rw [Array.append_assoc]
        simp only [Array.toList_append, Array.toList_map]
        exact r1.append (ra.append r2))
      refine ⟨about_wide o w _, ?_⟩
      rw [Oper.semAt_eq _ _ _ (cop_defer hc)]
      have hrun : (execOp a.eval o).run P w = .ok (.enter fid (fs' ++ c.args.map a.eval ++ cs')) w := by
        have hcf' : (callFunc fid (fs' ++ c.args.map a.eval ++ cs')).run P w = .ok (.enter fid (fs' ++ c.args.map a.eval ++ cs')) w := by
          simp only [callFunc, Sem.run_bind, run_program, Result.andThen_ok, e1]
          simp only [e2, e3, Bool.false_eq_true, if_false]
          rfl
        simp only [execOp, ho, resolve, hcal, rv, Deferred.ofValue, Sem.run_bind, Sem.run_pure, Result.andThen_ok, invoke]
        exact hcf'
      rw [hrun]
      refine ⟨(fun h => by cases h), callsIn_Wd (hcall.mono ?_)⟩
      rintro e w' ⟨v', ρ', rfl, q1, q2, q3⟩
      exact hK ρ' v' w' q1 q2 q3
    · rename_i id hg
      have hs := hyf _ _ _ _ _ _ _ h
      refine ⟨hs.le, fun ρ w a hS hF hG hT n r K Q hK => ?_⟩
      have hE := evs_of hT hG
      have rf := hE _ _ h1
      rw [hg] at rf
      simp only [Rel] at rf
      obtain ⟨b, o', m, q0, rv⟩ := rf
      have ra := hE.list h2
      obtain ⟨l, e1, e2, e3⟩ := hs.spec ρ w (c.args.map a.eval) hS hF hG (by rw [Array.toList_map]; exact ra) b (o', m) q0
      refine ⟨about_wide o w _, ?_⟩
      rw [Oper.semAt_eq _ _ _ (cop_defer hc)]
      have hrun : (execOp a.eval o).run P w = .ok (.round b l.fn ((l.params.zip (c.args.map a.eval)).foldl (fun tmps (t, a) => tmps.setIfInBounds t a) l.tmps) l.assign l.body) w := by
        have hz : (c.args.map a.eval).size = l.params.size := e2
        have hgl : (Instr.getLoop b).run P w = .ok l w := by
          simp [Instr.getLoop, getObj, Sem.run, e1]
        have hy : (Instr.yield b (c.args.map a.eval)).run P w = .ok (.round b l.fn ((l.params.zip (c.args.map a.eval)).foldl (fun tmps (t, a) => tmps.setIfInBounds t a) l.tmps) l.assign l.body) w := by
          unfold Instr.yield
          rw [Sem.run_bind, hgl]
          simp only [Result.andThen_ok, hz, ne_eq, not_true, if_false, Sem.run_pure]
        simp only [execOp, ho, resolve, hcal, rv, Deferred.ofValue, Sem.run_bind, Sem.run_pure, Result.andThen_ok, invoke]
        rw [show (#[] : Array Value) ++ c.args.map a.eval = c.args.map a.eval by simp]
        exact hy
      rw [hrun]
      refine ⟨(fun h => by cases h), (e3 (n - 1) r).mono ?_⟩
      rintro e w' ⟨v', ρ', rfl, q1, q2, q3⟩
      exact hK ρ' v' w' q1 q2 q3
    · cases h
  case store n0 x y =>
    split at h
    · rename_i H1 hst
      simp at h
      obtain ⟨rfl, rfl, rfl⟩ := h
      refine ⟨Nat.le_refl _, fun ρ w a hS hF hG hT n r K Q hK => ?_⟩
      obtain ⟨w', e1, e2, e3⟩ := st_sound nx hS (evs_of hT hG) hc hst
      refine ⟨about_wide o w _, ?_⟩
      rw [Oper.semAt_eq _ _ _ (cop_defer hc), e1]
      exact hK ρ undef w' e2 e3 (by simp only [undefA, Rel]; exact ⟨#[], rfl, RelL.nil⟩)
    · cases h
  case app n0 b0 s x =>
    have hx : ∀ (ρ : Env) (w : World) (a : Act), Sim B ρ H w → Glob gs ρ → RelA ρ T a.tmps → _ := fun ρ w a hS hG hT => ap_sound (P := P) (w := w) hS (evs_of hT hG) hc h
    refine ⟨?_, fun ρ w a hS hF hG hT n r K Q hK => ?_⟩
    · -- the names grow, whatever the world
      unfold apA at h
      repeat' split at h
      all_goals first
        | (cases h; done)
        | (simp only [frcN_eq, Option.some.injEq, Prod.mk.injEq] at h; obtain ⟨_, _, rfl⟩ := h; first | exact Nat.le_refl _ | (rw [Pos.toNat_succ]; omega))
    · obtain ⟨_, hsp⟩ := hx ρ w a hS hG hT
      obtain ⟨v', w', ρ', e1, e2, e3, e4⟩ := hsp hF
      exact wp_value hc e1 (hK ρ' v' w' e2 e3 e4)
  case ext q xs =>
    refine ⟨extA_mono h, fun ρ w a hS hF hG hT n r K Q hK => ?_⟩
    obtain ⟨out, v', w', ρ', e1, e2, e3, e4, e5⟩ := ext_sound (P := P) (w := w) hS (evs_of hT hG) hc h hF
    refine ⟨about_wide o w _, ?_⟩
    rw [Oper.semAt_eq _ _ _ (cop_defer hc), e1]
    rcases e2 with rfl | ⟨rfl, rfl⟩
    · exact hK ρ' v' w' e3 e4 e5
    · exact hK ρ' undef w' e3 e4 e5
  case load => exact ld h
  case slA => exact ld h
  case b2s => exact ld h
  case new z =>
    refine al ?_
    simp only [alA]; exact h
  case box => exact al h
  case mksl => exact al h
  case s2b => exact al h
  all_goals first
    | exact pu h
    | (simp only [puA] at h; cases h)
end
end Go.Abs

namespace Go.Abs
section
variable {P : Program} {gs : List Nat} {B : Base} {ρ : Env} {H : AHeap} {w : World}

/-! ### Temporaries -/
theorem RelA.put {T : PT AV} {tmps : Array Value} {v : AV} {cv : Value} {d : Nat} (h : RelA ρ T tmps) (hv : Rel ρ v cv) (hd : d < tmps.size) : RelA ρ (PT.put (Pos.ofNat d) (some v) T) (tmps.setIfInBounds d cv) := by
  intro t
  by_cases ht : t = d
  · subst ht
    simp only [evT, PT.get_put_same]
    rw [Array.getD_eq_getD_getElem?, Array.getElem?_setIfInBounds_self_of_lt hd]
    exact hv
  · have hne : Pos.ofNat t ≠ Pos.ofNat d := fun q => ht (Pos.ofNat_inj q)
    have := h t
    simp only [evT, PT.get_put_other _ _ _ _ hne] at this ⊢
    rw [Array.getD_eq_getD_getElem?, Array.getElem?_setIfInBounds_ne (Ne.symm ht), ← Array.getD_eq_getD_getElem?]
    exact this

theorem rel_undef : Rel ρ undefA undef := by simp only [undefA, Rel]; exact ⟨#[], rfl, RelL.nil⟩

/-- What is made of an operation in its place. -/
structure OperOK (P : Program) (gs : List Nat) (N : Nat) (ops : Array Oper) (o : Oper) (ao : AOper) : Prop where
  op : cop P gs o = some ao.op
  dst : (o.dst = none ∧ ao.dst = none) ∨ ∃ d, o.dst = some d ∧ d < N ∧ ao.dst = some (Pos.ofNat d)
  guard : (o.guard = none ∧ ao.guard = none) ∨ ∃ j want d, o.guard = some (j, want) ∧ (ops[j]?).bind (·.dst) = some d ∧ ao.guard = some (Pos.ofNat d, want)

theorem coper_ok {N : Nat} {ops : Array Oper} {o : Oper} {ao : AOper} (h : coper P gs N ops o = some ao) : OperOK P gs N ops o ao := by
  unfold coper at h
  split at h
  · rename_i d g op h1 h2 h3
    simp at h; subst h
    refine ⟨h3, ?_, ?_⟩
    · unfold cdst at h1
      split at h1
      · rename_i hd
        simp at h1; subst h1
        exact .inl ⟨hd, rfl⟩
      · rename_i d' hd
        split at h1
        · rename_i hlt
          simp at h1; subst h1
          exact .inr ⟨d', hd, hlt, rfl⟩
        · cases h1
    · unfold cguard at h2
      split at h2
      · rename_i hg
        simp at h2; subst h2
        exact .inl ⟨hg, rfl⟩
      · rename_i j want hg
        split at h2
        · rename_i d' hd
          simp at h2; subst h2
          exact .inr ⟨j, want, d', hg, hd, rfl⟩
        · cases h2
  · cases h

theorem put_rel {N : Nat} {ops : Array Oper} {o : Oper} {ao : AOper} (ho : OperOK P gs N ops o ao) {T : PT AV} {a : Act} {v : AV} {cv : Value} (hT : RelA ρ T a.tmps) (hv : Rel ρ v cv) (hN : N ≤ a.tmps.size) :
    RelA ρ (putT ao.dst v T) (a.put o.dst cv).tmps ∧ (a.put o.dst cv).tmps.size = a.tmps.size ∧ (a.put o.dst cv).defers = a.defers := by
  rcases ho.dst with ⟨h1, h2⟩ | ⟨d, h1, h2, h3⟩
  · rw [h1, h2]; exact ⟨hT, rfl, rfl⟩
  · rw [h1, h3]
    refine ⟨hT.put hv (Nat.lt_of_lt_of_le h2 hN), ?_, rfl⟩
    simp [Act.put]

theorem want_ok {N : Nat} {ops : Array Oper} {o : Oper} {ao : AOper} (ho : OperOK P gs N ops o ao) {T : PT AV} {tmps : Array Value} {b : Bool} (hT : RelA ρ T tmps) (h : wantA T ao.guard = some b) :
    Region.wanted o (yielded ops tmps) = b := by
  rcases ho.guard with ⟨h1, h2⟩ | ⟨j, want, d, h1, h2, h3⟩
  · rw [h2] at h
    simp only [wantA, Option.some.injEq] at h; subst h
    simp [Region.wanted, h1]
  · rw [h3] at h
    simp only [wantA] at h
    have hr := hT d
    simp only [Region.wanted, h1, yielded, h2, Option.bind_some]
    rw [Array.getD_eq_getD_getElem?] at hr
    split at h
    · rename_i q hq
      simp at h
      simp only [evT, hq, Rel] at hr
      cases hg : tmps[d]? with
      | none => rw [hg] at hr; simp [undef] at hr
      | some u => rw [hg] at hr; simp at hr; subst hr; simp [h]
    · rename_i hq
      simp at h; subst h
      simp only [evT, hq, Rel] at hr
      obtain ⟨cs, hcs, _⟩ := hr
      cases hg : tmps[d]? with
      | none => rfl
      | some u => rw [hg] at hcs; simp at hcs; subst hcs; rfl
    · rename_i hq
      simp at h; subst h
      simp only [evT, hq, Rel] at hr
      obtain ⟨cs, hcs, _⟩ := hr
      cases hg : tmps[d]? with
      | none => rfl
      | some u => rw [hg] at hcs; simp at hcs; subst hcs; rfl
    · cases h

/-! ### Operations in order -/
theorem seq_sound {cf : CallR} {yf : YieldR} (hcf : CallsOK P gs B cf) (hyf : YieldsOK P gs B yf) {N : Nat} {ops : Array Oper} : ∀ (l : List Nat) (os : List Oper) (aos : List AOper) (T : PT AV) (H : AHeap) (nx : Pos) (T' : PT AV) (H' : AHeap) (nx' : Pos),
    (∀ i : Nat, (l.map fun i => ops[i]?)[i]? = (os.map some)[i]?) → copers P gs N ops os = some aos → seqA cf yf aos T H nx = some (T', H', nx') →
    nx.toNat ≤ nx'.toNat ∧ ∀ (ρ : Env) (w : World) (a : Act), Sim B ρ H w → Fresh ρ nx nx' → Glob gs ρ → RelA ρ T a.tmps → N ≤ a.tmps.size → ∀ (n : Nat) (r : Option Nat) (Q : Exit → Act → World → Prop),
      (∀ ρ' a' w', Sim B ρ' H' w' → Step ρ H nx w ρ' H' nx' w' → RelA ρ' T' a'.tmps → a'.tmps.size = a.tmps.size → a'.defers = a.defers → Q .normal a' w') → wpOpsIn (Wd r) n P ops Q l a w
  | l, [], aos, T, H, nx, T', H', nx', hl, hc, h => by
    simp [copers] at hc; subst hc
    simp [seqA] at h
    obtain ⟨rfl, rfl, rfl⟩ := h
    have : l = [] := by
      cases l with
      | nil => rfl
      | cons x l => have := hl 0; simp at this
    subst this
    exact ⟨Nat.le_refl _, fun ρ w a hS _ _ hT hN n r Q hQ => hQ ρ a w hS (Step.refl _ _ _ _) hT rfl rfl⟩
  | l, o :: os, aos, T, H, nx, T', H', nx', hl, hc, h => by
    obtain ⟨i, l, rfl⟩ : ∃ i l', l = i :: l' := by
      cases l with
      | nil => have := hl 0; simp at this
      | cons x l => exact ⟨x, l, rfl⟩
    have hi : ops[i]? = some o := by have := hl 0; simpa using this
    have hl' : ∀ j : Nat, (l.map fun i => ops[i]?)[j]? = (os.map some)[j]? := fun j => by have := hl (j + 1); simpa using this
    simp only [copers] at hc
    split at hc
    · rename_i ao aos' h1 h2
      simp at hc; subst hc
      have hok := coper_ok h1
      simp only [seqA] at h
      split at h
      · rename_i hw
        split at h
        · rename_i v H1 nx1 hop
          have q1 := op_sound hcf hyf hok.op hop
          have q2 := seq_sound hcf hyf l os aos' _ _ _ _ _ _ hl' h2 h
          refine ⟨by omega, fun ρ w a hS hF hG hT hN n r Q hQ => ?_⟩
          simp only [wpOpsIn, hi]
          rw [if_pos (want_ok hok hT hw)]
          refine q1.2 ρ w a hS (hF.fst q2.1) hG hT n r _ Q fun ρ1 v1 w1 s1 st1 hv => ?_
          obtain ⟨p1, p2, p3⟩ := put_rel hok (hT.mono st1.ext) hv hN
          exact q2.2 ρ1 w1 _ s1 (hF.snd st1 q1.1) (hG.mono st1.ext) p1 (by rw [p2]; exact hN) n r Q fun ρ2 a2 w2 s2 st2 t2 n2 d2 =>
            hQ ρ2 a2 w2 s2 (st1.trans st2 q1.1 q2.1) t2 (n2.trans p2) (d2.trans p3)
        · cases h
      · rename_i hw
        have q2 := seq_sound hcf hyf l os aos' _ _ _ _ _ _ hl' h2 h
        refine ⟨q2.1, fun ρ w a hS hF hG hT hN n r Q hQ => ?_⟩
        simp only [wpOpsIn, hi]
        rw [if_neg (by rw [want_ok hok hT hw]; simp)]
        obtain ⟨p1, p2, p3⟩ := put_rel hok hT rel_undef hN
        exact ⟨fun _ _ => trivial, q2.2 ρ w _ hS hF hG p1 (by rw [p2]; exact hN) n r Q fun ρ2 a2 w2 s2 st2 t2 n2 d2 => hQ ρ2 a2 w2 s2 st2 t2 (n2.trans p2) (d2.trans p3)⟩
      · cases h
    · cases hc

theorem region_sound {cf : CallR} {yf : YieldR} (hcf : CallsOK P gs B cf) (hyf : YieldsOK P gs B yf) {N : Nat} {ops : Array Oper} {aos : List AOper} {T T' : PT AV} {H H' : AHeap} {nx nx' : Pos} (rid : Nat)
    (hc : copers P gs N ops ops.toList = some aos) (h : seqA cf yf aos T H nx = some (T', H', nx')) :
    nx.toNat ≤ nx'.toNat ∧ ∀ (ρ : Env) (w : World) (a : Act), Sim B ρ H w → Fresh ρ nx nx' → Glob gs ρ → RelA ρ T a.tmps → N ≤ a.tmps.size → ∀ (n : Nat) (r : Option Nat) (Q : Exit → Act → World → Prop),
      (∀ ρ' a' w', Sim B ρ' H' w' → Step ρ H nx w ρ' H' nx' w' → RelA ρ' T' a'.tmps → a'.tmps.size = a.tmps.size → a'.defers = a.defers → Q .normal a' w') → (Code.region rid ops false).wpIn (Wd r) n P Q a w := by
  have hl : ∀ i : Nat, ((List.range ops.size).map fun i => ops[i]?)[i]? = (ops.toList.map some)[i]? := by
    intro i
    simp only [List.getElem?_map, Array.getElem?_toList]
    by_cases hi : i < ops.size
    · rw [List.getElem?_range hi]
      simp [hi]
    · rw [List.getElem?_eq_none (by simp; omega), Array.getElem?_eq_none (by omega)]; rfl
  have q := seq_sound hcf hyf _ _ _ _ _ _ _ _ _ hl hc h
  exact ⟨q.1, fun ρ w a hS hF hG hT hN n r Q hQ => wpIn_region (q.2 ρ w a hS hF hG hT hN n r Q hQ)⟩
end
end Go.Abs

namespace Go.Abs

def DrawOK (P : Program) (gs : List Nat) (B : Base) (cf : CallR) (yf : YieldR) : Prop :=
  ∀ (N rid : Nat) (ops : Array Oper) (dl : List (Nat × Nat × AOper)) (T : PT AV) (H : AHeap) (nx : Pos) (T' : PT AV) (H' : AHeap) (nx' : Pos), cdrw P gs N ops = some (.drw dl) → drwA cf yf dl [] T H nx = some (T', H', nx') →
    nx.toNat ≤ nx'.toNat ∧ ∀ (ρ : Env) (w : World) (a : Act), Sim B ρ H w → Fresh ρ nx nx' → Glob gs ρ → RelA ρ T a.tmps → N ≤ a.tmps.size → ∀ (n : Nat) (r : Option Nat) (Q : Exit → Act → World → Prop),
      (∀ ρ' a' w', Sim B ρ' H' w' → Step ρ H nx w ρ' H' nx' w' → RelA ρ' T' a'.tmps → a'.tmps.size = a.tmps.size → a'.defers = a.defers → Q .normal a' w') → (Code.region rid ops true).wpIn (Wd r) n P Q a w

/-- The marks of the ranges over functions, among the deferred calls. -/
def RelD (ρ : Env) : List Pos → List Deferred → Prop
  | [], ds => ds = []
  | id :: D, ds => ∃ b m ds', ds = { target := .collected b, args := #[] } :: ds' ∧ ρ id = some (b, 0, m) ∧ RelD ρ D ds'

theorem RelD.mono {ρ ρ' : Env} (h : ρ.le ρ') : ∀ {D : List Pos} {ds : List Deferred}, RelD ρ D ds → RelD ρ' D ds
  | [], _, r => r
  | _ :: _, _, ⟨b, m, ds', e, e2, r⟩ => ⟨b, m, ds', e, h _ _ e2, r.mono h⟩

def AEx.toExit : AEx → Exit
  | .normal => .normal
  | .exit i => .exit i
  | .ret => .ret

/-- In which round the code runs. -/
def Rnd (ρ : Env) (rd : Option Pos) (r : Option Nat) : Prop := (rd = none ∧ r = none) ∨ ∃ id b o, rd = some id ∧ r = some b ∧ ρ id = some (b, o)

theorem Rnd.mono {ρ ρ' : Env} (h : ρ.le ρ') {rd : Option Pos} {r : Option Nat} (q : Rnd ρ rd r) : Rnd ρ' rd r := by
  rcases q with q | ⟨id, b, o, e1, e2, e3⟩
  · exact .inl q
  · exact .inr ⟨id, b, o, e1, e2, h _ _ e3⟩

structure CodeSpec (P : Program) (gs : List Nat) (B : Base) (N : Nat) (c : Code) (rd : Option Pos) (s : St) (x : AEx) (s' : St) : Prop where
  le : s.nx.toNat ≤ s'.nx.toNat
  spec : ∀ (ρ : Env) (w : World) (a : Act), Sim B ρ s.H w → Fresh ρ s.nx s'.nx → Glob gs ρ → RelA ρ s.T a.tmps → N ≤ a.tmps.size → RelD ρ s.D a.defers → ∀ (n : Nat) (r : Option Nat), Rnd ρ rd r → ∀ (Q : Exit → Act → World → Prop),
    (∀ ρ' a' w', Sim B ρ' s'.H w' → Step ρ s.H s.nx w ρ' s'.H s'.nx w' → RelA ρ' s'.T a'.tmps → a'.tmps.size = a.tmps.size → RelD ρ' s'.D a'.defers → Q x.toExit a' w') → c.wpIn (Wd r) n P Q a w

def ExecSpec (P : Program) (gs : List Nat) (B : Base) (ex : ExecR) : Prop :=
  ∀ (N : Nat) (c : Code) (ac : AC) (rd : Option Pos) (s : St) (x : AEx) (s' : St), cc P gs N c = some ac → ex ac rd s = some (x, s') → CodeSpec P gs B N c rd s x s'

section
variable {P : Program} {gs : List Nat} {B : Base}

/-! ### The end of a function -/
theorem Step.le_ext {ρ ρ' : Env} {H H' : AHeap} {nx nx' : Pos} {w w' : World} (h : Step ρ H nx w ρ' H' nx' w') : ρ.le ρ' := h.ext

theorem loadVar_sound {ρ : Env} {H : AHeap} {w : World} {t : TypeId} {ag : Bool} {n b o' m off : Nat} {id : Pos} {v : AV} (hS : Sim B ρ H w) (h1 : agOf P t = some ag) (h2 : szOf P t = some n) (r1 : ρ id = some (b, o', m))
    (hp : ldA (fun _ => .ptr id off) H (.load ag n (.t .h)) = some v) : ∃ cv, (loadVar t ⟨b, o' + off, none⟩).run P w = .ok cv w ∧ Rel ρ v cv := by
  simp only [ldA] at hp
  split at hp
  · rename_i ro l hg
    cases ag with
    | true =>
      simp only at hp
      split at hp
      · rename_i r hr
        simp at hp; subst hp
        obtain ⟨cs, c1, c2, c3⟩ := hS.load hg r1 hr
        refine ⟨.agg cs.toArray, ?_, by simp only [Rel]; exact ⟨_, rfl, by simpa using c2⟩⟩
        have := run_loadCells_list (P := P) w ⟨b, o' + off, none⟩ cs c3
        rw [c1] at this
        simp [loadVar, run_isAgg w h1, run_sizeOf w h2, this]
      · cases hp
    | false =>
      simp only [nthL_eq] at hp
      obtain ⟨b', o2, m', e1, _, _, e4, _⟩ := hS.cells _ _ _ hg
      rw [r1] at e1; cases e1
      obtain ⟨c, hc', hr⟩ := e4 _ _ hp
      refine ⟨c, ?_, hr⟩
      simp [loadVar, run_isAgg w h1, hc']
  · cases hp

theorem results_run {ρ : Env} {H : AHeap} {w : World} {T : PT AV} {tmps : Array Value} (hS : Sim B ρ H w) (hT : RelA ρ T tmps) : ∀ (rs : List ResultVar) (ars : List ARes) (l : List AV),
    rs.mapM (cres P) = some ars → resOf T H ars = some l →
    ∃ cs : List Value, (rs.mapM (fun (r : ResultVar) => (match r with | .tmp t => pure (tmps.getD t undef) | .cell a t => do loadVar t (← asAddr (tmps.getD a undef)) : Sem Value))).run P w = .ok cs w ∧ RelL ρ l cs
  | [], ars, l, h1, h2 => by
    simp at h1; subst h1
    simp [resOf] at h2; subst h2
    exact ⟨[], by simp, RelL.nil⟩
  | r :: rs, ars, l, h1, h2 => by
    simp only [List.mapM_cons, Option.bind_eq_bind, Option.bind_eq_some_iff] at h1
    obtain ⟨ar, ha, ars', hars, h1⟩ := h1
    simp at h1; subst h1
    cases r with
    | tmp t =>
      simp only [cres, Option.some.injEq] at ha; subst ha
      simp only [resOf] at h2
      split at h2
      · rename_i l' hl
        simp at h2; subst h2
        obtain ⟨cs, e1, e2⟩ := results_run hS hT rs ars' l' hars hl
        refine ⟨tmps.getD t undef :: cs, ?_, RelL.cons (hT t) e2⟩
        simp only [List.mapM_cons, Sem.run_bind, Sem.run_pure, Result.andThen_ok, e1]
      · cases h2
    | cell c t =>
      simp only [cres] at ha
      split at ha
      · rename_i ag n hag hn
        simp at ha; subst ha
        simp only [resOf] at h2
        split at h2
        · rename_i v l' hv hl
          simp at h2; subst h2
          obtain ⟨cs, e1, e2⟩ := results_run hS hT rs ars' l' hars hl
          have hp := hT c
          simp only [ldA] at hv
          split at hv
          · rename_i id off hex
            have hex' : evT T (Pos.ofNat c) = .ptr id off := hex
            rw [hex'] at hp
            simp only [Rel] at hp
            obtain ⟨b, o', m, r1, r2⟩ := hp
            obtain ⟨cv, q3, q2⟩ := loadVar_sound (P := P) (off := off) (v := v) hS hag hn r1 hv
            refine ⟨cv :: cs, ?_, RelL.cons q2 e2⟩
            have q4 : (asAddr (tmps.getD c undef)).run P w = .ok ⟨b, o' + off, none⟩ w := by rw [r2]; rfl
            simp only [List.mapM_cons, Sem.run_bind, q4, Result.andThen_ok, q3, e1, Sem.run_pure]
          · cases hv
        · cases h2
      · cases ha

theorem results_ok {ρ : Env} {H : AHeap} {w : World} {T : PT AV} {tmps : Array Value} {fn : Func} {ars : List ARes} {l : List AV} (hS : Sim B ρ H w) (hT : RelA ρ T tmps)
    (h1 : fn.results.toList.mapM (cres P) = some ars) (h2 : resOf T H ars = some l) : ∃ v, (results fn tmps).run P w = .ok v w ∧ Rel ρ (tupOf l) v := by
  obtain ⟨cs, e1, e2⟩ := results_run (P := P) hS hT _ _ _ h1 h2
  have e3 : (fn.results.mapM (fun (r : ResultVar) => (match r with | .tmp t => pure (tmps.getD t undef) | .cell a t => do loadVar t (← asAddr (tmps.getD a undef)) : Sem Value))).run P w = .ok cs.toArray w := by
    rw [Array.mapM_eq_mapM_toList, Sem.run_map, e1]; rfl
  have hlen := e2.length
  by_cases h1' : cs.length = 1
  · obtain ⟨v, rfl⟩ := List.length_eq_one_iff.1 h1'
    obtain ⟨a, rfl⟩ := List.length_eq_one_iff.1 (hlen.trans h1')
    refine ⟨v, ?_, ?_⟩
    · have key : ∀ X : Result (Array Value), X = .ok #[v] w → (X.andThen fun a w' => (Pure.pure (if h : a.size = 1 then a[0] else .tuple a) : Sem Value).run P w') = .ok v w := by
        intro X hX; rw [hX]; simp
      simp only [results, Sem.run_bind]
      exact key _ e3
    · simp only [RelL, List.cons.injEq] at e2
      obtain ⟨_, _, ⟨rfl, _⟩, hr, _⟩ := e2
      exact hr
  · refine ⟨.tuple cs.toArray, ?_, ?_⟩
    · have key : ∀ X : Result (Array Value), X = .ok cs.toArray w → (X.andThen fun a w' => (Pure.pure (if h : a.size = 1 then a[0] else .tuple a) : Sem Value).run P w') = .ok (.tuple cs.toArray) w := by
        intro X hX; rw [hX]; simp [h1']
      simp only [results, Sem.run_bind]
      exact key _ e3
    · have : tupOf l = .tup l := by
        cases l with
        | nil => rfl
        | cons a l => cases l with
          | nil => simp at hlen; omega
          | cons b l => rfl
      rw [this]
      simp only [Rel]
      exact ⟨_, rfl, by simpa using e2⟩

theorem unmark_ok {fn : Func} {tmps : Array Value} {R : Ending → World → Prop} {n : Nat} (nx : Pos) : ∀ (D : List Pos) (H H' : AHeap) (ρ : Env) (w : World) (ds : List Deferred), unmark D H = some H' → Sim B ρ H w → RelD ρ D ds →
    (∀ w', Sim B ρ H' w' → Step ρ H nx w ρ H' nx w' → LeavesInM (Wd none) n P fn tmps R [] .returning w') → LeavesInM (Wd none) n P fn tmps R ds .returning w
  | [], H, H', ρ, w, ds, h, hS, hD, hk => by
    simp [unmark] at h; subst h
    simp only [RelD] at hD; subst hD
    exact hk w hS (Step.refl _ _ _ _)
  | id :: D, H, H', ρ, w, ds, h, hS, hD, hk => by
    simp only [unmark] at h
    split at h
    · rename_i hg
      obtain ⟨b, m, ds', rfl, e2, hD'⟩ := hD
      obtain ⟨b', m', ob, q1, q2, q3, q4⟩ := hS.objs id .dfr hg rfl
      rw [e2] at q1; cases q1
      have q4 : ob = .deferred (some []) := q4
      subst q4
      obtain ⟨s1, s2⟩ := hS.putObj (k := none) (o := .deferred none) hg rfl e2 (fun _ h => by cases h) nx
      refine ⟨by simp, .inl ⟨b, _, rfl, run_takeDeferred q3, ?_⟩⟩
      exact unmark_ok nx D _ H' ρ _ ds' h s1 hD' fun w' s3 s4 => hk w' s3 (s2.trans s4 (Nat.le_refl _) (Nat.le_refl _))
    · cases h

theorem bindT_rel {ρ : Env} : ∀ (vs : List AV) (cs : List Value) (n : Nat) (T : PT AV) (pre : List Value), RelL ρ vs cs → pre.length = n → (∀ t, t < n → Rel ρ (evT T (Pos.ofNat t)) (pre.getD t undef)) → (∀ t, n ≤ t → PT.get (Pos.ofNat t) T = none) →
    (∀ t, t < n + vs.length → Rel ρ (evT (bindT vs n T) (Pos.ofNat t)) ((pre ++ cs).getD t undef)) ∧ ∀ t, n + vs.length ≤ t → PT.get (Pos.ofNat t) (bindT vs n T) = none
  | [], cs, n, T, pre, h, hp, h1, h2 => by
    simp only [RelL] at h; subst h
    simpa [bindT] using ⟨h1, h2⟩
  | v :: vs, cs, n, T, pre, h, hp, h1, h2 => by
    simp only [RelL] at h
    obtain ⟨c, cs', rfl, hv, h⟩ := h
    have := bindT_rel vs cs' (n + 1) (PT.put (Pos.ofNat n) (some v) T) (pre ++ [c]) h (by simp [hp]) (by
      intro t ht
      by_cases hn : t = n
      · subst hn
        simp only [evT, PT.get_put_same]
        rw [List.getD_eq_getElem?_getD, List.getElem?_append_right (by omega)]
        simpa [hp] using hv
      · have hne : Pos.ofNat t ≠ Pos.ofNat n := fun q => hn (Pos.ofNat_inj q)
        have := h1 t (by omega)
        simp only [evT, PT.get_put_other _ _ _ _ hne] at this ⊢
        rw [List.getD_eq_getElem?_getD, List.getElem?_append_left (by omega), ← List.getD_eq_getElem?_getD]
        exact this) (by
      intro t ht
      have hne : Pos.ofNat t ≠ Pos.ofNat n := fun q => by have := Pos.ofNat_inj q; omega
      rw [PT.get_put_other _ _ _ _ hne]
      exact h2 t (by omega))
    simp only [List.append_assoc, List.singleton_append] at this
    simp only [bindT, List.length_cons]
    exact ⟨fun t ht => this.1 t (by omega), fun t ht => this.2 t (by omega)⟩

theorem args_rel {ρ : Env} {args : List AV} {cargs : Array Value} (h : RelL ρ args cargs.toList) (N : Nat) : RelA ρ (bindT args 0 .lf) (cargs ++ Array.replicate (N - cargs.size) undef) := by
  obtain ⟨h1, h2⟩ := bindT_rel args cargs.toList 0 .lf [] h rfl (fun t ht => by omega) (fun t _ => PT.get_lf _)
  have hlen := h.length
  simp at hlen
  intro t
  by_cases ht : t < args.length
  · have := h1 t (by omega)
    simp only [List.nil_append] at this
    rw [Array.getD_eq_getD_getElem?, Array.getElem?_append_left (by omega)]
    rw [List.getD_eq_getElem?_getD, Array.getElem?_toList] at this
    exact this
  · have := h2 t (by omega)
    simp only [evT, this]
    have hu : (cargs ++ Array.replicate (N - cargs.size) undef).getD t undef = undef := by
      rw [Array.getD_eq_getD_getElem?, Array.getElem?_append_right (by omega), Array.getElem?_replicate]
      split <;> rfl
    rw [hu]; exact rel_undef

end
end Go.Abs

namespace Go.Abs

def MonoC (cf : CallR) : Prop := ∀ f args H nx v H' nx', cf f args H nx = some (v, H', nx') → nx.toNat ≤ nx'.toNat
def MonoY (yf : YieldR) : Prop := ∀ id args H nx v H' nx', yf id args H nx = some (v, H', nx') → nx.toNat ≤ nx'.toNat
def MonoE (ex : ExecR) : Prop := ∀ c rd s x s', ex c rd s = some (x, s') → s.nx.toNat ≤ s'.nx.toNat

theorem apA_mono {H : AHeap} {nx : Pos} {n b : Nat} {s x v : AV} {H' : AHeap} {nx' : Pos} (h : apA H nx n b s x = some (v, H', nx')) : nx.toNat ≤ nx'.toNat := by
  unfold apA at h
  repeat' split at h
  all_goals first
    | (cases h; done)
    | (simp only [frcN_eq, Option.some.injEq, Prod.mk.injEq] at h; obtain ⟨_, _, rfl⟩ := h; first | exact Nat.le_refl _ | (rw [Pos.toNat_succ]; omega))

theorem opA_mono {cf : CallR} {yf : YieldR} (h1 : MonoC cf) (h2 : MonoY yf) {e : AX → AV} {H : AHeap} {nx : Pos} {op : AOp} {v : AV} {H' : AHeap} {nx' : Pos} (h : opA cf yf e H nx op = some (v, H', nx')) : nx.toNat ≤ nx'.toNat := by
  cases op <;> simp only [opA] at h
  case call g args =>
    split at h
    · exact h1 _ _ _ _ _ _ _ h
    · exact h2 _ _ _ _ _ _ _ h
    · cases h
  case app => exact apA_mono h
  case ext => exact extA_mono h
  all_goals
    (try split at h) <;> first
      | (cases h; done)
      | (simp at h; obtain ⟨_, _, rfl⟩ := h; first | exact Nat.le_refl _ | (rw [Pos.toNat_succ]; omega))

theorem seqA_mono {cf : CallR} {yf : YieldR} (h1 : MonoC cf) (h2 : MonoY yf) : ∀ {os : List AOper} {T : PT AV} {H : AHeap} {nx : Pos} {T' : PT AV} {H' : AHeap} {nx' : Pos}, seqA cf yf os T H nx = some (T', H', nx') → nx.toNat ≤ nx'.toNat
  | [], _, _, _, _, _, _, h => by simp [seqA] at h; obtain ⟨_, _, rfl⟩ := h; exact Nat.le_refl _
  | o :: os, T, H, nx, T', H', nx', h => by
    simp only [seqA] at h
    split at h
    · split at h
      · rename_i v H1 n1 e
        have := opA_mono h1 h2 e
        have := seqA_mono h1 h2 h
        omega
      · cases h
    · exact seqA_mono h1 h2 h
    · cases h

theorem drwA_mono {cf : CallR} {yf : YieldR} (h1 : MonoC cf) (h2 : MonoY yf) : ∀ {os : List (Nat × Nat × AOper)} {Ss : List AHeap} {T : PT AV} {H : AHeap} {nx : Pos} {T' : PT AV} {H' : AHeap} {nx' : Pos}, drwA cf yf os Ss T H nx = some (T', H', nx') → nx.toNat ≤ nx'.toNat
  | [], _, _, _, _, _, _, _, h => by simp [drwA] at h; obtain ⟨_, _, rfl⟩ := h; exact Nat.le_refl _
  | (s, k, o) :: os, Ss, T, H, nx, T', H', nx', h => by
    simp only [drwA] at h
    split at h
    · split at h
      · rename_i v H1 n1 e
        have := opA_mono h1 h2 e
        split at h
        · split at h
          · have := drwA_mono h1 h2 h; omega
          · cases h
        · have := drwA_mono h1 h2 h; omega
        · have := drwA_mono h1 h2 h; omega
      · cases h
    · split at h
      · exact drwA_mono h1 h2 h
      · exact drwA_mono h1 h2 h
    · cases h

section
variable {fns : Nat → Option AFn} {sum : Nat → List AV → AHeap → Option AV} {ex : ExecR}

theorem callA_mono (h : MonoE ex) : MonoC (callA fns sum ex) := by
  intro f args H nx v H' nx' hc
  simp only [callA] at hc
  split at hc
  · simp at hc; obtain ⟨_, _, rfl⟩ := hc; exact Nat.le_refl _
  · split at hc
    · split at hc
      · rename_i s e
        have := h _ _ _ _ _ e
        simp only [endFn] at hc
        split at hc
        · split at hc
          · simp at hc; obtain ⟨_, _, rfl⟩ := hc; exact this
          · cases hc
        · cases hc
      · rename_i s e
        have := h _ _ _ _ _ e
        simp only [endFn] at hc
        split at hc
        · split at hc
          · simp at hc; obtain ⟨_, _, rfl⟩ := hc; exact this
          · cases hc
        · cases hc
      · cases hc
    · cases hc

theorem yieldA_mono (h : MonoE ex) : MonoY (yieldA ex) := by
  intro id args H nx v H' nx' hc
  simp only [yieldA] at hc
  split at hc
  · split at hc
    · split at hc
      · rename_i s1 e1
        have q1 := h _ _ _ _ _ e1
        split at hc
        · split at hc
          · rename_i x s2 e2
            have q2 := h _ _ _ _ _ e2
            split at hc
            · split at hc <;> (simp at hc; obtain ⟨_, _, rfl⟩ := hc; exact Nat.le_trans q1 q2)
            · cases hc
          · cases hc
        · cases hc
      · cases hc
    · cases hc
  · cases hc

theorem execF_mono (h : MonoE ex) : MonoE (execF fns sum ex) := by
  intro c rd s x s' hc
  cases c with
  | skip => simp only [execF, Option.some.injEq, Prod.mk.injEq] at hc; obtain ⟨_, rfl⟩ := hc; exact Nat.le_refl _
  | reg ops =>
    simp only [execF] at hc
    split at hc
    · rename_i e
      have := seqA_mono (callA_mono h) (yieldA_mono h) e
      simp only [Option.some.injEq, Prod.mk.injEq] at hc; obtain ⟨_, rfl⟩ := hc; exact this
    · cases hc
  | drw ops =>
    simp only [execF] at hc
    split at hc
    · rename_i e
      have := drwA_mono (callA_mono h) (yieldA_mono h) e
      simp only [Option.some.injEq, Prod.mk.injEq] at hc; obtain ⟨_, rfl⟩ := hc; exact this
    · cases hc
  | seq a b =>
    simp only [execF] at hc
    split at hc
    · rename_i s1 e
      exact Nat.le_trans (h _ _ _ _ _ e) (h _ _ _ _ _ hc)
    · exact h _ _ _ _ _ hc
  | cond t a b =>
    simp only [execF] at hc
    split at hc
    · exact h _ _ _ _ _ hc
    · exact h _ _ _ _ _ hc
    · cases hc
  | block id a =>
    simp only [execF] at hc
    split at hc
    · rename_i i s1 e
      have := h _ _ _ _ _ e
      split at hc <;> (simp only [Option.some.injEq, Prod.mk.injEq] at hc; obtain ⟨_, rfl⟩ := hc; exact this)
    · exact h _ _ _ _ _ hc
  | loop a =>
    simp only [execF] at hc
    split at hc
    · rename_i s1 e
      exact Nat.le_trans (h _ _ _ _ _ e) (h _ _ _ _ _ hc)
    · exact h _ _ _ _ _ hc
  | rng f ps asg body =>
    simp only [execF] at hc
    split at hc
    · cases hc
    · split at hc
      · split at hc
        · rename_i e
          have := callA_mono h _ _ _ _ _ _ _ e
          rw [Pos.toNat_succ, Pos.toNat_succ] at this
          split at hc <;> first
            | (simp only [Option.some.injEq, Prod.mk.injEq] at hc; obtain ⟨_, rfl⟩ := hc; exact Nat.le_trans (by omega) this)
            | (cases hc; done)
        · cases hc
      · cases hc
  | exit id => simp only [execF, Option.some.injEq, Prod.mk.injEq] at hc; obtain ⟨_, rfl⟩ := hc; exact Nat.le_refl _
  | ret => simp only [execF, Option.some.injEq, Prod.mk.injEq] at hc; obtain ⟨_, rfl⟩ := hc; exact Nat.le_refl _
  | bad => cases hc

theorem exec_mono : ∀ n, MonoE (exec fns sum n)
  | 0 => fun _ _ _ _ _ h => by cases h
  | n + 1 => execF_mono (exec_mono n)
end
end Go.Abs

namespace Go.Abs
section
variable {P : Program} {gs : List Nat} {B : Base}

/-- Functions are made of the program's. -/
def FnsOK (P : Program) (gs : List Nat) (fns : Nat → Option AFn) : Prop := ∀ f afn, fns f = some afn → ∃ fn, P.funcs[f]? = some fn ∧ cfn P gs fn = some afn

/-- Calls whose outcome is known: nothing that was there is touched. -/
def SumOK (P : Program) (gs : List Nat) (B : Base) (sum : Nat → List AV → AHeap → Option AV) : Prop := ∀ f args H v, sum f args H = some v → (∃ fn, P.funcs[f]? = some fn ∧ (fn.name == "runtime.NumGoroutine") = false ∧ fn.body.isNone = false) ∧
  ∀ (ρ : Env) (nx : Pos) (w : World) (cargs : Array Value), Sim B ρ H w → Glob gs ρ → RelL ρ args cargs.toList → Calls P f cargs w (CPost B ρ H nx w v H nx)

theorem call_sound {ex : ExecR} {fns : Nat → Option AFn} {sum : Nat → List AV → AHeap → Option AV} (hex : ExecSpec P gs B ex) (hfns : FnsOK P gs fns) (hsum : SumOK P gs B sum) : CallsOK P gs B (callA fns sum ex) := by
  intro f args H nx r H' nx' h
  simp only [callA] at h
  split at h
  · rename_i v hs
    simp at h
    obtain ⟨rfl, rfl, rfl⟩ := h
    obtain ⟨h1, h2⟩ := hsum f args H v hs
    exact ⟨Nat.le_refl _, h1, fun ρ w cargs hS _ hG hr => h2 ρ nx w cargs hS hG hr⟩
  · split at h
    · rename_i afn hf
      obtain ⟨fn, e1, e2⟩ := hfns f afn hf
      unfold cfn at e2
      split at e2
      · rename_i c hb
        split at e2
        · rename_i b rs hcc hrs
          split at e2
          · cases e2
          · rename_i hname
            simp at e2; subst e2
            have key : ∀ (x : AEx) (s : St), (x = .normal ∨ x = .ret) → ex b none ⟨bindT args 0 .lf, [], H, nx⟩ = some (x, s) → endFn ⟨rs, b⟩ s = some (r, H', nx') → CallSpec P gs B f args H nx r H' nx' := by
              intro x s hx he hend
              have hcs := hex _ _ _ _ _ _ _ hcc he
              unfold endFn at hend
              split at hend
              · rename_i H1 hum
                split at hend
                · rename_i l hl
                  simp at hend
                  obtain ⟨rfl, rfl, rfl⟩ := hend
                  refine ⟨hcs.le, ⟨fn, e1, by simpa using hname, by simp [hb]⟩, fun ρ w cargs hS hF hG hr => ?_⟩
                  refine calls_of_Wd (r := none) (n := 0) (callsIn_of_wp_marks (F := Wd none) e1 hb trivial ?_ rfl)
                  refine hcs.spec ρ w { tmps := cargs ++ Array.replicate (fn.ntmps - cargs.size) undef, defers := [] } hS hF hG (args_rel hr fn.ntmps) (by simp; omega) rfl 0 none (.inl ⟨rfl, rfl⟩) _ fun ρ1 a1 w1 s1 st1 t1 n1 d1 => ?_
                  have fin : LeavesInM (Wd none) 0 P fn a1.tmps (CPost B ρ H nx w (tupOf l) H1 s.nx) a1.defers .returning w1 := by
                    refine unmark_ok s.nx s.D s.H H1 ρ1 w1 a1.defers hum s1 d1 fun w2 s2 st2 => ?_
                    obtain ⟨v, r1, r2⟩ := results_ok (P := P) (fn := fn) s2 t1 hrs hl
                    exact ⟨v, r1, v, ρ1, rfl, s2, st1.trans st2 hcs.le (Nat.le_refl _), r2⟩
                  rcases hx with rfl | rfl
                  · exact fin
                  · exact fin
                · cases hend
              · cases hend
            split at h
            · rename_i s he; exact key _ s (.inl rfl) he h
            · rename_i s he; exact key _ s (.inr rfl) he h
            · cases h
        · cases e2
      · cases e2
    · cases h
end
end Go.Abs

namespace Go.Abs
section
variable {P : Program} {gs : List Nat} {B : Base}

/-- What abstract code is made from. -/
def CrOK (P : Program) (gs : List Nat) (B : Base) : Prop := ∀ m c ac, B.cr m c ac ↔ ∃ N, N ≤ m ∧ cc P gs N c = some ac

theorem setPs_rel {ρ : Env} : ∀ (prm : List Tmp) (ps : List Pos) (args : List AV) (cargs : List Value) (T T' : PT AV) (tmps : Array Value), prm.map Pos.ofNat = ps → setPs ps args T = some T' → RelL ρ args cargs → (∀ p ∈ prm, p < tmps.size) → RelA ρ T tmps →
    RelA ρ T' ((prm.zip cargs).foldl (fun (tmps : Array Value) (ta : Tmp × Value) => tmps.setIfInBounds ta.1 ta.2) tmps) ∧ ((prm.zip cargs).foldl (fun (tmps : Array Value) (ta : Tmp × Value) => tmps.setIfInBounds ta.1 ta.2) tmps).size = tmps.size ∧ cargs.length = prm.length
  | [], ps, args, cargs, T, T', tmps, hp, h, hr, _, hT => by
    simp at hp; subst hp
    cases args with
    | nil =>
      simp [setPs] at h; subst h
      simp only [RelL] at hr; subst hr
      exact ⟨hT, rfl, rfl⟩
    | cons a l => simp [setPs] at h
  | q :: prm, ps, args, cargs, T, T', tmps, hp, h, hr, hin, hT => by
    simp at hp; subst hp
    cases args with
    | nil => simp [setPs] at h
    | cons a l =>
      simp only [setPs] at h
      simp only [RelL] at hr
      obtain ⟨c, cs, rfl, hv, hr⟩ := hr
      have := setPs_rel prm _ l cs _ T' (tmps.setIfInBounds q c) rfl h hr (fun p hp => by simp; exact hin p (by simp [hp])) (hT.put hv (hin q (by simp)))
      simp only [List.zip_cons_cons, List.foldl_cons, List.length_cons]
      exact ⟨this.1, by rw [this.2.1]; simp, by rw [this.2.2]⟩

theorem zip_fold (prm : Array Tmp) (cargs : Array Value) (tmps : Array Value) :
    (prm.zip cargs).foldl (fun tmps (t, a) => tmps.setIfInBounds t a) tmps = (prm.toList.zip cargs.toList).foldl (fun (tmps : Array Value) (ta : Tmp × Value) => tmps.setIfInBounds ta.1 ta.2) tmps := by
  rw [← Array.foldl_toList, Array.toList_zip]

theorem loop_obj {ρ : Env} {H : AHeap} {w : World} (hS : Sim B ρ H w) {id : Pos} {rdy : Bool} {pend : Option (Option Nat)} {T : PT AV} {ps : List Pos} {ag bd : AC} (hg : PT.get id H = some (.loop rdy pend T ps ag bd)) {b : Nat} {o : Nat × Nat}
    (r : ρ id = some (b, o)) : ∃ m l, ρ id = some (b, 0, m) ∧ w.heap[b]? = some (.loop l) ∧ LoopOK B ρ l rdy pend T ps ag bd := by
  obtain ⟨b', m, ob, e1, e2, e3, e4⟩ := hS.objs id _ hg rfl
  rw [r] at e1; cases e1
  obtain ⟨l, rfl, q⟩ := e4
  exact ⟨m, l, r, e3, q⟩

/-- The record is written. -/
theorem loop_put {ρ : Env} {H : AHeap} {w : World} (hS : Sim B ρ H w) {id : Pos} {rdy rdy' : Bool} {pend pend' : Option (Option Nat)} {T : PT AV} {ps : List Pos} {ag bd : AC} (hg : PT.get id H = some (.loop rdy pend T ps ag bd)) {b m : Nat} {l : Loop}
    (r : ρ id = some (b, 0, m)) (q : LoopOK B ρ l rdy pend T ps ag bd) (nx : Pos) (st : LoopState) (pd : Option Code) (h1 : st = stOf rdy' pend') (h2 : pd = pend'.map jmp) :
    Sim B ρ (PT.put id (some (.loop rdy' pend' T ps ag bd)) H) (w.putObj b (.loop { l with state := st, pending := pd })) ∧
      Step ρ H nx w ρ (PT.put id (some (.loop rdy' pend' T ps ag bd)) H) nx (w.putObj b (.loop { l with state := st, pending := pd })) := by
  refine hS.putObj hg rfl r (fun k' hk' => ?_) nx
  cases hk'
  exact ⟨rfl, _, rfl, ⟨h1, h2, q.tmps, q.params, q.inside, q.assign, q.body⟩⟩

theorem yield_sound {ex : ExecR} (hex : ExecSpec P gs B ex) (hmono : MonoE ex) (hB : CrOK P gs B) : YieldsOK P gs B (yieldA ex) := by
  intro id args H nx r H' nx' h
  simp only [yieldA] at h
  split at h
  · rename_i T ps asg body hg
    split at h
    · rename_i T1 hps
      split at h
      · rename_i s1 he1
        split at h
        · rename_i T2 ps2 asg2 body2 hg1
          split at h
          · rename_i x s2 he2
            split at h
            · rename_i T3 ps3 asg3 body3 hD2 hg2
              -- what the three ways out have in common
              have common : ∀ (jump : Option (Option Nat)) (v : AV) (rdy' : Bool), H' = PT.put id (some (.loop rdy' jump T3 ps3 asg3 body3)) s2.H → nx' = s2.nx → r = v → v = .bool rdy' → rdy' = jump.isNone →
                  (∀ (b : Nat) (R : Ending → World → Prop) (a : Act) (w : World), (∃ v w', (Instr.endRound b (jump.map jmp)).run P w = .ok v w' ∧ R (.returned v) w') → roundPost P b R x.toExit a w) → YieldSpec P gs B id args H nx r H' nx' := by
                intro jump v rdy' hH hnx hr hv hrdy hway
                subst hH; subst hnx; subst hr; subst hv
                -- the two runs grow the names
                have le1 : nx.toNat ≤ s1.nx.toNat := hmono _ _ _ _ _ he1
                have le2 : s1.nx.toNat ≤ s2.nx.toNat := by have := hmono _ _ _ _ _ he2; exact this
                refine ⟨by omega, fun ρ w cargs hS hF hG hra b o hb => ?_⟩
                obtain ⟨m, l, r0, hl, q⟩ := loop_obj hS hg hb
                obtain ⟨N1, hN1, hc1⟩ := (hB _ _ _).1 q.assign
                obtain ⟨N2, hN2, hc2⟩ := (hB _ _ _).1 q.body
                obtain ⟨t1, t2, t3⟩ := setPs_rel l.params.toList ps args cargs.toList T T1 l.tmps q.params hps hra q.inside q.tmps
                refine ⟨l, hl, by simpa using t3, fun n r' => ?_⟩
                rw [zip_fold]
                have cs1 := hex N1 l.assign asg (some id) _ _ _ hc1 he1
                have cs2 := hex N2 l.body body (some id) _ _ _ hc2 he2
                refine roundIn_of_wpIn (F := Wd r') trivial ?_
                have rnd : Rnd ρ (some id) (some b) := .inr ⟨id, b, o, rfl, rfl, hb⟩
                refine cs1.spec ρ w { tmps := (l.params.toList.zip cargs.toList).foldl (fun (tmps : Array Value) (ta : Tmp × Value) => tmps.setIfInBounds ta.1 ta.2) l.tmps, defers := [] } hS (hF.fst le2) hG t1 (by rw [t2]; exact hN1) rfl n (some b) rnd _ fun ρ1 a1 w1 S1 st1 rt1 sz1 d1 => ?_
                have hb1 := st1.ext _ _ r0
                obtain ⟨m1, l1, r1, hl1, q1⟩ := loop_obj S1 hg1 hb1
                obtain ⟨S2, st2⟩ := loop_put (rdy' := false) (pend' := none) S1 hg1 r1 q1 s1.nx .busy none rfl rfl
                refine ⟨_, run_beginRound hl1 q1.state, ?_⟩
                have hq1 : l1.pending = none := q1.pending
                have hbusy : w1.putObj b (.loop { l1 with state := .busy }) = w1.putObj b (.loop { l1 with state := .busy, pending := none }) := by
                  rw [show ({ l1 with state := .busy } : Loop) = { l1 with state := .busy, pending := none } by cases l1; simp at hq1; subst hq1; rfl]
                rw [hbusy]
                have st12 := st1.trans st2 le1 (Nat.le_refl _)
                refine cs2.spec ρ1 _ a1 S2 (hF.snd st12 le1) (hG.mono st1.ext) rt1 (by rw [sz1]; show N2 ≤ ((l.params.toList.zip cargs.toList).foldl _ l.tmps).size; rw [t2]; exact hN2) d1 n (some b) (rnd.mono st1.ext) _ fun ρ2 a2 w2 S3 st3 rt2 sz2 d2 => ?_
                have hb2 := st3.ext _ _ hb1
                obtain ⟨m2, l2, r2, hl2, q2⟩ := loop_obj S3 hg2 hb2
                obtain ⟨S4, st4⟩ := loop_put (rdy' := rdy') (pend' := jump) S3 hg2 r2 q2 s2.nx (if (jump.map jmp).isNone then .ready else .done) (jump.map jmp) (by subst hrdy; cases jump <;> rfl) rfl
                refine hway b _ a2 w2 ⟨_, _, run_endRound _ hl2, _, ρ2, rfl, S4, (st12.trans st3 le1 le2).trans st4 (Nat.le_trans le1 le2) (Nat.le_refl _), ?_⟩
                subst hrdy
                cases jump <;> simp [Rel]
              split at h
              · simp at h
                obtain ⟨rfl, rfl, rfl⟩ := h
                exact common none _ true rfl rfl rfl rfl rfl fun b R a w h => h
              · simp at h
                obtain ⟨rfl, rfl, rfl⟩ := h
                exact common (some none) _ false rfl rfl rfl rfl rfl fun b R a w h => h
              · simp at h
                obtain ⟨rfl, rfl, rfl⟩ := h
                exact common (some (some _)) _ false rfl rfl rfl rfl rfl fun b R a w h => h
            · cases h
          · cases h
        · cases h
      · cases h
    · cases h
  · cases h
end
end Go.Abs
