/- The abstract interpreter, part Rec: operations in order, then others; one call by its contract. -/
import Derived.Test.YteofddgoedkhcaaGreatDoorAbsTop
namespace Go.Abs
section
variable {P : Program} {gs : List Nat} {B : Base}

/-- Operations in order, with others behind. -/
theorem seq_sound_to {cf : CallR} {yf : YieldR} (hcf : CallsOK P gs B cf) (hyf : YieldsOK P gs B yf) {N : Nat} {ops : Array Oper} : ∀ (l : List Nat) (os : List Oper) (aos : List AOper) (l2 : List Nat) (T : PT AV) (H : AHeap) (nx : Pos) (T' : PT AV) (H' : AHeap) (nx' : Pos),
    (∀ i : Nat, (l.map fun i => ops[i]?)[i]? = (os.map some)[i]?) → copers P gs N ops os = some aos → seqA cf yf aos T H nx = some (T', H', nx') →
    nx.toNat ≤ nx'.toNat ∧ ∀ (ρ : Env) (w : World) (a : Act), Sim B ρ H w → Fresh ρ nx nx' → Glob gs ρ → RelA ρ T a.tmps → N ≤ a.tmps.size → ∀ (n : Nat) (r : Option Nat) (Q : Exit → Act → World → Prop),
      (∀ ρ' a' w', Sim B ρ' H' w' → Step ρ H nx w ρ' H' nx' w' → RelA ρ' T' a'.tmps → a'.tmps.size = a.tmps.size → a'.defers = a.defers → wpOpsIn (Wd r) n P ops Q l2 a' w') → wpOpsIn (Wd r) n P ops Q (l ++ l2) a w
  | l, [], aos, l2, T, H, nx, T', H', nx', hl, hc, h => by
    simp [copers] at hc; subst hc
    simp [seqA] at h
    obtain ⟨rfl, rfl, rfl⟩ := h
    have : l = [] := by
      cases l with
      | nil => rfl
      | cons x l => have := hl 0; simp at this
    subst this
    exact ⟨Nat.le_refl _, fun ρ w a hS _ _ hT hN n r Q hQ => hQ ρ a w hS (Step.refl _ _ _ _) hT rfl rfl⟩
  | l, o :: os, aos, l2, T, H, nx, T', H', nx', hl, hc, h => by
    obtain ⟨i, l, rfl⟩ : ∃ i l', l = i :: l' := by
      cases l with
      | nil => have := hl 0; simp at this
      | cons x l => exact ⟨x, l, rfl⟩
    have hi : ops[i]? = some o := by have := hl 0; simpa using this
    have hl' : ∀ j : Nat, (l.map fun i => ops[i]?)[j]? = (os.map some)[j]? := fun j => by have := hl (j + 1); simpa using this
    simp only [copers] at hc
    split at hc
    · rename_i ao aos' h1 h2
      simp at hc; subst hc
      have hok := coper_ok h1
      simp only [seqA] at h
      split at h
      · rename_i hw
        split at h
        · rename_i v H1 nx1 hop
          have q1 := op_sound hcf hyf hok.op hop
          have q2 := seq_sound_to hcf hyf l os aos' l2 _ _ _ _ _ _ hl' h2 h
          refine ⟨by omega, fun ρ w a hS hF hG hT hN n r Q hQ => ?_⟩
          simp only [List.cons_append, wpOpsIn, hi]
          rw [if_pos (want_ok hok hT hw)]
          refine q1.2 ρ w a hS (hF.fst q2.1) hG hT n r _ Q fun ρ1 v1 w1 s1 st1 hv => ?_
          obtain ⟨p1, p2, p3⟩ := put_rel hok (hT.mono st1.ext) hv hN
          exact q2.2 ρ1 w1 _ s1 (hF.snd st1 q1.1) (hG.mono st1.ext) p1 (by rw [p2]; exact hN) n r Q fun ρ2 a2 w2 s2 st2 t2 n2 d2 =>
            hQ ρ2 a2 w2 s2 (st1.trans st2 q1.1 q2.1) t2 (n2.trans p2) (d2.trans p3)
        · cases h
      · rename_i hw
        have q2 := seq_sound_to hcf hyf l os aos' l2 _ _ _ _ _ _ hl' h2 h
        refine ⟨q2.1, fun ρ w a hS hF hG hT hN n r Q hQ => ?_⟩
        simp only [List.cons_append, wpOpsIn, hi]
        rw [if_neg (by rw [want_ok hok hT hw]; simp)]
        obtain ⟨p1, p2, p3⟩ := put_rel hok hT rel_undef hN
        exact ⟨fun _ _ => trivial, q2.2 ρ w _ hS hF hG p1 (by rw [p2]; exact hN) n r Q fun ρ2 a2 w2 s2 st2 t2 n2 d2 => hQ ρ2 a2 w2 s2 st2 t2 (n2.trans p2) (d2.trans p3)⟩
      · cases h
    · cases hc

/-- A call of a function of the program's, by what is known of it. -/
theorem op_call {o : Oper} {f : Nat} {args : List AX} {a : Act} {w : World} {n : Nat} {r : Option Nat} {K : Act → World → Prop} {Q : Exit → Act → World → Prop} (hc : cop P gs o = some (.call (.c (.fn (.func f) [] [])) args)) (ho : ∀ c, o.op = .call c → c.callee = .value (.func f))
    (hf : ∃ fn, P.funcs[f]? = some fn ∧ (fn.name == "runtime.NumGoroutine") = false ∧ fn.body.isNone = false) {R : Value → World → Prop}
    (hcall : ∀ c, o.op = .call c → Calls P f (c.args.map a.eval) w (fun e w' => ∃ v, e = .returned v ∧ R v w')) (hK : ∀ v w', R v w' → K (a.put o.dst v) w') : o.wpIn (Wd r) n P a w K Q := by
  obtain ⟨c, g, hop, hcal, _, _⟩ := cop_call hc
  have hcv := ho c hop
  obtain ⟨fn, e1, e2, e3⟩ := hf
  refine ⟨about_wide o w _, ?_⟩
  rw [Oper.semAt_eq _ _ _ (cop_defer hc)]
  have hrun : (execOp a.eval o).run P w = .ok (.enter f (c.args.map a.eval)) w := by
    have hcf' : ∀ args, (callFunc f args).run P w = .ok (.enter f args) w := by
      intro args
      simp only [callFunc, Sem.run_bind, run_program, Result.andThen_ok, e1]
      simp only [e2, e3, Bool.false_eq_true, if_false]
      rfl
    have rv : a.eval (.func f) = .func (.func f) #[] #[] := rfl
    simp only [execOp, hop, resolve, hcv, rv, Deferred.ofValue, Sem.run_bind, Sem.run_pure, Result.andThen_ok, invoke]
    rw [hcf']
    simp
  rw [hrun]
  refine ⟨(fun h => by cases h), callsIn_Wd ((hcall c hop).mono ?_)⟩
  rintro e w' ⟨v, rfl, q⟩
  exact hK v w' q
end

def seqL : Code → Code
  | .seq a _ => a
  | c => c
def seqR : Code → Code
  | .seq _ b => b
  | c => c
def regOps : Code → Array Oper
  | .region _ ops _ => ops
  | _ => #[]
def regId : Code → Nat
  | .region i _ _ => i
  | _ => 0
def aseqL : AC → AC
  | .seq a _ => a
  | c => c
def aseqR : AC → AC
  | .seq _ b => b
  | c => c
def aregOps : AC → List AOper
  | .reg ops => ops
  | _ => []
end Go.Abs
