/- The examples' check, run once; what a call of it comes to in any state. -/
import Derived.Test.YtgcfdengoenboaaGreatDoorGxTab
namespace Go.Proofs.TG
open Go Go.Abs Go.Proofs

set_option maxRecDepth 1000000 in
theorem known_run : topK fns sumE 1000000 4 [] H0 n0 isT = true := by kernel_rfl

theorem known_calls {w : World} (hl : Laid gs H0 w) : Calls Tryz.prog 4 #[] w (fun e w' => e = .returned (.bool true) ∧ Keeps w w') := by
  obtain ⟨v, H', nx', h1, h2⟩ := topK_some _ _ known_run
  obtain rfl := isT_spec h2
  refine (run_call mixed fns_ok (sumE_ok _) tables names_low h1 hl (by exact RelL.nil)).mono ?_
  rintro e w' ⟨c, ρ', rfl, hk, hr⟩
  simp only [Rel] at hr
  subst hr
  exact ⟨rfl, hk⟩

def sumK (f : Nat) (args : List AV) (H : AHeap) : Option AV := bif Nat.beq f 4 then (match args with
  | [] => bif hasTbl H then some (.bool true) else none
  | _ => none) else sumE f args H

theorem sumK_ok (n : Array Obj) : SumOK Tryz.prog gs (mkB Tryz.prog gs n) sumK := by
  intro f args H v h
  unfold sumK at h
  cases hf : Nat.beq f 4 with
  | false => rw [hf] at h; exact sumE_ok n f args H v h
  | true =>
    rw [hf] at h
    obtain rfl := Nat.eq_of_beq_eq_true hf
    simp only [cond_true] at h
    split at h
    · cases ht : hasTbl H with
      | false => rw [ht] at h; cases h
      | true =>
        rw [ht] at h
        cases h
        refine ⟨⟨Tryz.f4, by kernel_rfl, by kernel_rfl, by kernel_rfl⟩, fun ρ nx w cargs hS hG hr => ?_⟩
        have : cargs = #[] := by
          simp only [RelL] at hr
          exact Array.toList_inj.1 (by simpa using hr)
        subst this
        refine (known_calls (laid_sim hS hG ht)).mono ?_
        rintro e w' ⟨rfl, hk⟩
        exact ⟨_, ρ, rfl, hS.keep hk.heap hk.size, hk.step _ _ _, by simp [Rel]⟩
    · cases h
end Go.Proofs.TG
