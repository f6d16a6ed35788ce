/- CatalogueChecks: a run of it, over arguments known within bounds. -/
import Derived.Test.YteofddgoedkhcaaGreatDoorKxItoa
namespace Go.Proofs.TK
open Go Go.Abs Go.Proofs

def mn : Int := .negSucc 9223372036854775807
def mx : Int := .ofNat 9223372036854775807
def R : AV := .rng .i64 mn mx
def nr (n : Nat) : AV := .int .i64 (.ofNat n)
def upTo (n : Nat) : AV := .rng .i64 mn (.ofNat n)
def from' (n : Nat) : AV := .rng .i64 (.ofNat n) mx
def scales : AV := .rng .i64 (.ofNat 1) (.ofNat 64)
noncomputable def runs (a b c : AV) : Bool := topK fns sumC 1000000 3 [a, b, c] H0 n0 isT

theorem run_of {a b c : AV} (h : runs a b c = true) {w : World} (hl : Laid gs H0 w) (ht : Lib.TabIs Tryz.prog w powName .u64 Lib.pow10Tab) {x y z : Value}
    (ha : Rel (globEnv gs) a x) (hb : Rel (globEnv gs) b y) (hc : Rel (globEnv gs) c z) : Calls Tryz.prog 3 #[x, y, z] w (fun e w' => e = .returned (.bool true) ∧ Keeps w w') := by
  obtain ⟨v, H', nx', h1, h2⟩ := topK_some _ _ h
  obtain rfl := isT_spec h2
  refine (run_call mixed fns_ok (sumC_ok ht) tables names_low h1 hl ?_).mono ?_
  · simp only [RelL]
    exact ⟨_, _, rfl, ha, _, _, rfl, hb, _, _, rfl, hc, rfl⟩
  · rintro e w' ⟨c, ρ', rfl, hk, hr⟩
    simp only [Rel] at hr
    subst hr
    exact ⟨rfl, hk⟩
end Go.Proofs.TK
