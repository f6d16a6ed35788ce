/- The recipe of three small numbers: one of those of the chapter. -/
import Derived.Test.YtgcfdengoenboaaGreatDoorGxKnown
import Derived.Test.YtgcfdengoenboaaGreatDoorAbsTop
namespace Go.Proofs.TG
open Go Go.Abs Go.Proofs

/-- The least and the greatest count of a kind. -/
def cnt : Nat → Nat × Nat
  | 1 => (2, 6)
  | 2 => (1, 3)
  | 3 => (1, 3)
  | 4 => (2, 4)
  | 5 => (1, 3)
  | 6 => (1, 4)
  | _ => (1, 0)

def isR : AV → Bool
  | .agg [.int .i64 (.ofNat k), .rng .i64 (.ofNat a) (.ofNat b), .rng .i64 (.ofNat c) (.ofNat d)] => Nat.ble 1 k && Nat.ble k 6 && Nat.beq a (cnt k).1 && Nat.beq b (cnt k).2 && Nat.beq c 1 && Nat.beq d 4
  | _ => false

noncomputable def runR (k : Nat) : Bool := topK fns sumE 1000 5 [.int .u8 (.ofNat k), .rng .u8 0 255, .rng .u8 0 255] H0 n0 (fun v _ _ => isR v)

set_option maxRecDepth 1000000 in
theorem recipe_runs : (List.range 256).all runR = true := by kernel_rfl

/-- A recipe of the chapter. -/
def IsRecipe (k c s : Nat) : Prop := 1 ≤ k ∧ k ≤ 6 ∧ (cnt k).1 ≤ c ∧ c ≤ (cnt k).2 ∧ 1 ≤ s ∧ s ≤ 4

def recipeV (k c s : Nat) : Value := .agg #[.int .i64 k, .int .i64 c, .int .i64 s]

theorem isR_spec {ρ : Env} {v : AV} {cv : Value} (h : isR v = true) (hr : Rel ρ v cv) : ∃ k c s, IsRecipe k c s ∧ cv = recipeV k c s := by
  unfold isR at h
  split at h
  · rename_i k a b c d
    simp only [Bool.and_eq_true, Nat.ble_eq] at h
    obtain ⟨⟨⟨⟨⟨h1, h2⟩, h3⟩, h4⟩, h5⟩, h6⟩ := h
    obtain rfl := Nat.eq_of_beq_eq_true h3
    obtain rfl := Nat.eq_of_beq_eq_true h4
    obtain rfl := Nat.eq_of_beq_eq_true h5
    obtain rfl := Nat.eq_of_beq_eq_true h6
    simp only [Rel, RelL] at hr
    obtain ⟨cs, rfl, hr⟩ := hr
    obtain ⟨c0, l0, e0, rfl, c1, l1, e1, ⟨m, m1, m2, rfl⟩, c2, l2, e2, ⟨q, q1, q2, rfl⟩, rfl⟩ := hr
    refine ⟨k, m.toNat, q.toNat, ⟨h1, h2, by simp at m1; omega, by simp at m2; omega, by simp at q1; omega, by simp at q2; omega⟩, ?_⟩
    have hcs : cs = #[.int .i64 (.ofNat k), .int .i64 m, .int .i64 q] := by
      apply Array.toList_inj.1
      rw [e0, e1, e2]
    rw [hcs, recipeV]
    have hm : ((m.toNat : Nat) : Int) = m := Int.toNat_of_nonneg (by have : (0 : Int) ≤ Int.ofNat (cnt k).1 := Int.natCast_nonneg _; omega)
    have hq : ((q.toNat : Nat) : Int) = q := Int.toNat_of_nonneg (by have : (0 : Int) ≤ Int.ofNat 1 := Int.natCast_nonneg _; omega)
    rw [hm, hq]
    rfl
  · cases h

theorem recipe_calls {k c s : Nat} (hk : k < 256) (hc : c < 256) (hs : s < 256) {w : World} (hl : Laid gs H0 w) :
    Calls Tryz.prog 5 #[.int .u8 k, .int .u8 c, .int .u8 s] w (fun e w' => ∃ v, e = .returned v ∧ (Keeps w w' ∧ ∃ k' c' s', IsRecipe k' c' s' ∧ v = recipeV k' c' s')) := by
  have hrun := List.all_eq_true.1 recipe_runs k (List.mem_range.2 hk)
  obtain ⟨v, H', nx', h1, h2⟩ := topK_some _ _ hrun
  refine (run_call mixed fns_ok (sumE_ok _) tables names_low h1 hl ?_).mono ?_
  · simp only [RelL, Rel]
    exact ⟨_, _, rfl, rfl, _, _, rfl, ⟨c, by omega, by omega, rfl⟩, _, _, rfl, ⟨s, by omega, by omega, rfl⟩, rfl⟩
  · rintro e w' ⟨cv, ρ', rfl, hkp, hr⟩
    exact ⟨cv, rfl, hkp, isR_spec h2 hr⟩
end Go.Proofs.TG
