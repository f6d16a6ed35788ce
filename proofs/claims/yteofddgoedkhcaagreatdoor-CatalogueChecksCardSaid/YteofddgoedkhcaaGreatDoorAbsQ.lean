/- The abstract interpreter, part Q: calls. -/
import Derived.Test.YteofddgoedkhcaaGreatDoorAbsP
namespace Go.Abs
section
variable {P : Program} {gs : List Nat} {B : Base}

/-- Functions are made of the program's. -/
def FnsOK (P : Program) (gs : List Nat) (fns : Nat → Option AFn) : Prop := ∀ f afn, fns f = some afn → ∃ fn, P.funcs[f]? = some fn ∧ cfn P gs fn = some afn

/-- Calls whose outcome is known: nothing that was there is touched. -/
def SumOK (P : Program) (gs : List Nat) (B : Base) (sum : Nat → List AV → AHeap → Option AV) : Prop := ∀ f args H v, sum f args H = some v → (∃ fn, P.funcs[f]? = some fn ∧ (fn.name == "runtime.NumGoroutine") = false ∧ fn.body.isNone = false) ∧
  ∀ (ρ : Env) (nx : Pos) (w : World) (cargs : Array Value), Sim B ρ H w → Glob gs ρ → RelL ρ args cargs.toList → Calls P f cargs w (CPost B ρ H nx w v H nx)

theorem call_sound {ex : ExecR} {fns : Nat → Option AFn} {sum : Nat → List AV → AHeap → Option AV} (hex : ExecSpec P gs B ex) (hfns : FnsOK P gs fns) (hsum : SumOK P gs B sum) : CallsOK P gs B (callA fns sum ex) := by
  intro f args H nx r H' nx' h
  simp only [callA] at h
  split at h
  · rename_i v hs
    simp at h
    obtain ⟨rfl, rfl, rfl⟩ := h
    obtain ⟨h1, h2⟩ := hsum f args H v hs
    exact ⟨Nat.le_refl _, h1, fun ρ w cargs hS _ hG hr => h2 ρ nx w cargs hS hG hr⟩
  · split at h
    · rename_i afn hf
      obtain ⟨fn, e1, e2⟩ := hfns f afn hf
      unfold cfn at e2
      split at e2
      · rename_i c hb
        split at e2
        · rename_i b rs hcc hrs
          split at e2
          · cases e2
          · rename_i hname
            simp at e2; subst e2
            have key : ∀ (x : AEx) (s : St), (x = .normal ∨ x = .ret) → ex b none ⟨bindT args 0 .lf, [], H, nx⟩ = some (x, s) → endFn ⟨rs, b⟩ s = some (r, H', nx') → CallSpec P gs B f args H nx r H' nx' := by
              intro x s hx he hend
              have hcs := hex _ _ _ _ _ _ _ hcc he
              unfold endFn at hend
              split at hend
              · rename_i H1 hum
                split at hend
                · rename_i l hl
                  simp at hend
                  obtain ⟨rfl, rfl, rfl⟩ := hend
                  refine ⟨hcs.le, ⟨fn, e1, by simpa using hname, by simp [hb]⟩, fun ρ w cargs hS hF hG hr => ?_⟩
                  refine calls_of_Wd (r := none) (n := 0) (callsIn_of_wp_marks (F := Wd none) e1 hb trivial ?_ rfl)
                  refine hcs.spec ρ w { tmps := cargs ++ Array.replicate (fn.ntmps - cargs.size) undef, defers := [] } hS hF hG (args_rel hr fn.ntmps) (by simp; omega) rfl 0 none (.inl ⟨rfl, rfl⟩) _ fun ρ1 a1 w1 s1 st1 t1 n1 d1 => ?_
                  have fin : LeavesInM (Wd none) 0 P fn a1.tmps (CPost B ρ H nx w (tupOf l) H1 s.nx) a1.defers .returning w1 := by
                    refine unmark_ok s.nx s.D s.H H1 ρ1 w1 a1.defers hum s1 d1 fun w2 s2 st2 => ?_
                    obtain ⟨v, r1, r2⟩ := results_ok (P := P) (fn := fn) s2 t1 hrs hl
                    exact ⟨v, r1, v, ρ1, rfl, s2, st1.trans st2 hcs.le (Nat.le_refl _), r2⟩
                  rcases hx with rfl | rfl
                  · exact fin
                  · exact fin
                · cases hend
              · cases hend
            split at h
            · rename_i s he; exact key _ s (.inl rfl) he h
            · rename_i s he; exact key _ s (.inr rfl) he h
            · cases h
        · cases e2
      · cases e2
    · cases h
end
end Go.Abs
