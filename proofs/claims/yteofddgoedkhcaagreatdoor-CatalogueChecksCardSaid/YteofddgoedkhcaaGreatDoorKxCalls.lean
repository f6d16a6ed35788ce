/- Printed by a program (wip/tools/mkruns3.py): the runs of CatalogueChecks. -/
import Derived.Test.YteofddgoedkhcaaGreatDoorKxRuns0
import Derived.Test.YteofddgoedkhcaaGreatDoorKxRuns1
import Derived.Test.YteofddgoedkhcaaGreatDoorKxRuns2
namespace Go.Proofs.TK
open Go Go.Abs Go.Proofs
theorem rel_nr {ρ : Env} {x : Int} {n : Nat} (h : x = n) : Rel ρ (nr n) (.int .i64 x) := by subst h; simp [nr, Rel]
theorem rel_upTo {ρ : Env} {x : Int} {n : Nat} (h : x ≤ n) (h0 : -9223372036854775808 ≤ x) : Rel ρ (upTo n) (.int .i64 x) := by
  simp only [upTo, Rel, mn]
  exact ⟨x, by show -9223372036854775808 ≤ x; exact h0, by show x ≤ (n : Int); exact h, rfl⟩
theorem rel_from {ρ : Env} {x : Int} {n : Nat} (h : (n : Int) ≤ x) (h1 : x ≤ 9223372036854775807) : Rel ρ (from' n) (.int .i64 x) := by
  simp only [from', Rel, mx]
  exact ⟨x, by show (n : Int) ≤ x; exact h, by show x ≤ 9223372036854775807; exact h1, rfl⟩
theorem rel_R {ρ : Env} {x : Int} (h0 : -9223372036854775808 ≤ x) (h1 : x ≤ 9223372036854775807) : Rel ρ R (.int .i64 x) := by
  simp only [R, Rel, mn, mx]
  exact ⟨x, by show -9223372036854775808 ≤ x; exact h0, by show x ≤ 9223372036854775807; exact h1, rfl⟩
theorem rel_scales {ρ : Env} {x : Int} (h0 : 1 ≤ x) (h1 : x ≤ 64) : Rel ρ scales (.int .i64 x) := by
  simp only [scales, Rel]
  exact ⟨x, by show (1 : Int) ≤ x; exact h0, by show x ≤ (64 : Int); exact h1, rfl⟩
/-- Any three integers: true; nothing that lay before is written. -/
theorem checks_calls {k c s : Int} (k0 : -9223372036854775808 ≤ k) (k1 : k ≤ 9223372036854775807) (c0 : -9223372036854775808 ≤ c) (c1 : c ≤ 9223372036854775807) (s0 : -9223372036854775808 ≤ s) (s1 : s ≤ 9223372036854775807)
    {w : World} (hl : Laid gs H0 w) (ht : Lib.TabIs Tryz.prog w powName .u64 Lib.pow10Tab) : Calls Tryz.prog 3 #[.int .i64 k, .int .i64 c, .int .i64 s] w (fun e w' => e = .returned (.bool true) ∧ Keeps w w') := by
  have hk : k ≤ (0 : Nat) ∨ k = (1 : Nat) ∨ k = (2 : Nat) ∨ k = (3 : Nat) ∨ k = (4 : Nat) ∨ k = (5 : Nat) ∨ k = (6 : Nat) ∨ ((7 : Nat) : Int) ≤ k := by omega
  have hs : s ≤ (0 : Nat) ∨ (1 ≤ s ∧ s ≤ 64) ∨ ((65 : Nat) : Int) ≤ s := by omega
  rcases hk with hk | hk | hk | hk | hk | hk | hk | hk
  · exact run_of lowK hl ht (rel_upTo hk k0) (rel_R c0 c1) (rel_R s0 s1)
  · have hc : c ≤ (1 : Nat) ∨ c = (2 : Nat) ∨ c = (3 : Nat) ∨ c = (4 : Nat) ∨ c = (5 : Nat) ∨ c = (6 : Nat) ∨ ((7 : Nat) : Int) ≤ c := by omega
    rcases hc with hc | hc | hc | hc | hc | hc | hc
    · exact run_of lowC_1 hl ht (rel_nr hk) (rel_upTo hc c0) (rel_R s0 s1)
    · rcases hs with hs | ⟨hs, hs2⟩ | hs
      · exact run_of lowS_1_2 hl ht (rel_nr hk) (rel_nr hc) (rel_upTo hs s0)
      · exact run_of ok_1_2 hl ht (rel_nr hk) (rel_nr hc) (rel_scales hs hs2)
      · exact run_of highS_1_2 hl ht (rel_nr hk) (rel_nr hc) (rel_from hs s1)
    · rcases hs with hs | ⟨hs, hs2⟩ | hs
      · exact run_of lowS_1_3 hl ht (rel_nr hk) (rel_nr hc) (rel_upTo hs s0)
      · exact run_of ok_1_3 hl ht (rel_nr hk) (rel_nr hc) (rel_scales hs hs2)
      · exact run_of highS_1_3 hl ht (rel_nr hk) (rel_nr hc) (rel_from hs s1)
    · rcases hs with hs | ⟨hs, hs2⟩ | hs
      · exact run_of lowS_1_4 hl ht (rel_nr hk) (rel_nr hc) (rel_upTo hs s0)
      · exact run_of ok_1_4 hl ht (rel_nr hk) (rel_nr hc) (rel_scales hs hs2)
      · exact run_of highS_1_4 hl ht (rel_nr hk) (rel_nr hc) (rel_from hs s1)
    · rcases hs with hs | ⟨hs, hs2⟩ | hs
      · exact run_of lowS_1_5 hl ht (rel_nr hk) (rel_nr hc) (rel_upTo hs s0)
      · exact run_of ok_1_5 hl ht (rel_nr hk) (rel_nr hc) (rel_scales hs hs2)
      · exact run_of highS_1_5 hl ht (rel_nr hk) (rel_nr hc) (rel_from hs s1)
    · rcases hs with hs | ⟨hs, hs2⟩ | hs
      · exact run_of lowS_1_6 hl ht (rel_nr hk) (rel_nr hc) (rel_upTo hs s0)
      · exact run_of ok_1_6 hl ht (rel_nr hk) (rel_nr hc) (rel_scales hs hs2)
      · exact run_of highS_1_6 hl ht (rel_nr hk) (rel_nr hc) (rel_from hs s1)
    · exact run_of highC_1 hl ht (rel_nr hk) (rel_from hc c1) (rel_R s0 s1)
  · have hc : c ≤ (0 : Nat) ∨ c = (1 : Nat) ∨ c = (2 : Nat) ∨ c = (3 : Nat) ∨ ((4 : Nat) : Int) ≤ c := by omega
    rcases hc with hc | hc | hc | hc | hc
    · exact run_of lowC_2 hl ht (rel_nr hk) (rel_upTo hc c0) (rel_R s0 s1)
    · rcases hs with hs | ⟨hs, hs2⟩ | hs
      · exact run_of lowS_2_1 hl ht (rel_nr hk) (rel_nr hc) (rel_upTo hs s0)
      · exact run_of ok_2_1 hl ht (rel_nr hk) (rel_nr hc) (rel_scales hs hs2)
      · exact run_of highS_2_1 hl ht (rel_nr hk) (rel_nr hc) (rel_from hs s1)
    · rcases hs with hs | ⟨hs, hs2⟩ | hs
      · exact run_of lowS_2_2 hl ht (rel_nr hk) (rel_nr hc) (rel_upTo hs s0)
      · exact run_of ok_2_2 hl ht (rel_nr hk) (rel_nr hc) (rel_scales hs hs2)
      · exact run_of highS_2_2 hl ht (rel_nr hk) (rel_nr hc) (rel_from hs s1)
    · rcases hs with hs | ⟨hs, hs2⟩ | hs
      · exact run_of lowS_2_3 hl ht (rel_nr hk) (rel_nr hc) (rel_upTo hs s0)
      · exact run_of ok_2_3 hl ht (rel_nr hk) (rel_nr hc) (rel_scales hs hs2)
      · exact run_of highS_2_3 hl ht (rel_nr hk) (rel_nr hc) (rel_from hs s1)
    · exact run_of highC_2 hl ht (rel_nr hk) (rel_from hc c1) (rel_R s0 s1)
  · have hc : c ≤ (0 : Nat) ∨ c = (1 : Nat) ∨ c = (2 : Nat) ∨ c = (3 : Nat) ∨ ((4 : Nat) : Int) ≤ c := by omega
    rcases hc with hc | hc | hc | hc | hc
    · exact run_of lowC_3 hl ht (rel_nr hk) (rel_upTo hc c0) (rel_R s0 s1)
    · rcases hs with hs | ⟨hs, hs2⟩ | hs
      · exact run_of lowS_3_1 hl ht (rel_nr hk) (rel_nr hc) (rel_upTo hs s0)
      · exact run_of ok_3_1 hl ht (rel_nr hk) (rel_nr hc) (rel_scales hs hs2)
      · exact run_of highS_3_1 hl ht (rel_nr hk) (rel_nr hc) (rel_from hs s1)
    · rcases hs with hs | ⟨hs, hs2⟩ | hs
      · exact run_of lowS_3_2 hl ht (rel_nr hk) (rel_nr hc) (rel_upTo hs s0)
      · exact run_of ok_3_2 hl ht (rel_nr hk) (rel_nr hc) (rel_scales hs hs2)
      · exact run_of highS_3_2 hl ht (rel_nr hk) (rel_nr hc) (rel_from hs s1)
    · rcases hs with hs | ⟨hs, hs2⟩ | hs
      · exact run_of lowS_3_3 hl ht (rel_nr hk) (rel_nr hc) (rel_upTo hs s0)
      · exact run_of ok_3_3 hl ht (rel_nr hk) (rel_nr hc) (rel_scales hs hs2)
      · exact run_of highS_3_3 hl ht (rel_nr hk) (rel_nr hc) (rel_from hs s1)
    · exact run_of highC_3 hl ht (rel_nr hk) (rel_from hc c1) (rel_R s0 s1)
  · have hc : c ≤ (1 : Nat) ∨ c = (2 : Nat) ∨ c = (3 : Nat) ∨ c = (4 : Nat) ∨ ((5 : Nat) : Int) ≤ c := by omega
    rcases hc with hc | hc | hc | hc | hc
    · exact run_of lowC_4 hl ht (rel_nr hk) (rel_upTo hc c0) (rel_R s0 s1)
    · rcases hs with hs | ⟨hs, hs2⟩ | hs
      · exact run_of lowS_4_2 hl ht (rel_nr hk) (rel_nr hc) (rel_upTo hs s0)
      · exact run_of ok_4_2 hl ht (rel_nr hk) (rel_nr hc) (rel_scales hs hs2)
      · exact run_of highS_4_2 hl ht (rel_nr hk) (rel_nr hc) (rel_from hs s1)
    · rcases hs with hs | ⟨hs, hs2⟩ | hs
      · exact run_of lowS_4_3 hl ht (rel_nr hk) (rel_nr hc) (rel_upTo hs s0)
      · exact run_of ok_4_3 hl ht (rel_nr hk) (rel_nr hc) (rel_scales hs hs2)
      · exact run_of highS_4_3 hl ht (rel_nr hk) (rel_nr hc) (rel_from hs s1)
    · rcases hs with hs | ⟨hs, hs2⟩ | hs
      · exact run_of lowS_4_4 hl ht (rel_nr hk) (rel_nr hc) (rel_upTo hs s0)
      · exact run_of ok_4_4 hl ht (rel_nr hk) (rel_nr hc) (rel_scales hs hs2)
      · exact run_of highS_4_4 hl ht (rel_nr hk) (rel_nr hc) (rel_from hs s1)
    · exact run_of highC_4 hl ht (rel_nr hk) (rel_from hc c1) (rel_R s0 s1)
  · have hc : c ≤ (0 : Nat) ∨ c = (1 : Nat) ∨ c = (2 : Nat) ∨ c = (3 : Nat) ∨ ((4 : Nat) : Int) ≤ c := by omega
    rcases hc with hc | hc | hc | hc | hc
    · exact run_of lowC_5 hl ht (rel_nr hk) (rel_upTo hc c0) (rel_R s0 s1)
    · rcases hs with hs | ⟨hs, hs2⟩ | hs
      · exact run_of lowS_5_1 hl ht (rel_nr hk) (rel_nr hc) (rel_upTo hs s0)
      · exact run_of ok_5_1 hl ht (rel_nr hk) (rel_nr hc) (rel_scales hs hs2)
      · exact run_of highS_5_1 hl ht (rel_nr hk) (rel_nr hc) (rel_from hs s1)
    · rcases hs with hs | ⟨hs, hs2⟩ | hs
      · exact run_of lowS_5_2 hl ht (rel_nr hk) (rel_nr hc) (rel_upTo hs s0)
      · exact run_of ok_5_2 hl ht (rel_nr hk) (rel_nr hc) (rel_scales hs hs2)
      · exact run_of highS_5_2 hl ht (rel_nr hk) (rel_nr hc) (rel_from hs s1)
    · rcases hs with hs | ⟨hs, hs2⟩ | hs
      · exact run_of lowS_5_3 hl ht (rel_nr hk) (rel_nr hc) (rel_upTo hs s0)
      · exact run_of ok_5_3 hl ht (rel_nr hk) (rel_nr hc) (rel_scales hs hs2)
      · exact run_of highS_5_3 hl ht (rel_nr hk) (rel_nr hc) (rel_from hs s1)
    · exact run_of highC_5 hl ht (rel_nr hk) (rel_from hc c1) (rel_R s0 s1)
  · have hc : c ≤ (0 : Nat) ∨ c = (1 : Nat) ∨ c = (2 : Nat) ∨ c = (3 : Nat) ∨ c = (4 : Nat) ∨ ((5 : Nat) : Int) ≤ c := by omega
    rcases hc with hc | hc | hc | hc | hc | hc
    · exact run_of lowC_6 hl ht (rel_nr hk) (rel_upTo hc c0) (rel_R s0 s1)
    · rcases hs with hs | ⟨hs, hs2⟩ | hs
      · exact run_of lowS_6_1 hl ht (rel_nr hk) (rel_nr hc) (rel_upTo hs s0)
      · exact run_of ok_6_1 hl ht (rel_nr hk) (rel_nr hc) (rel_scales hs hs2)
      · exact run_of highS_6_1 hl ht (rel_nr hk) (rel_nr hc) (rel_from hs s1)
    · rcases hs with hs | ⟨hs, hs2⟩ | hs
      · exact run_of lowS_6_2 hl ht (rel_nr hk) (rel_nr hc) (rel_upTo hs s0)
      · exact run_of ok_6_2 hl ht (rel_nr hk) (rel_nr hc) (rel_scales hs hs2)
      · exact run_of highS_6_2 hl ht (rel_nr hk) (rel_nr hc) (rel_from hs s1)
    · rcases hs with hs | ⟨hs, hs2⟩ | hs
      · exact run_of lowS_6_3 hl ht (rel_nr hk) (rel_nr hc) (rel_upTo hs s0)
      · exact run_of ok_6_3 hl ht (rel_nr hk) (rel_nr hc) (rel_scales hs hs2)
      · exact run_of highS_6_3 hl ht (rel_nr hk) (rel_nr hc) (rel_from hs s1)
    · rcases hs with hs | ⟨hs, hs2⟩ | hs
      · exact run_of lowS_6_4 hl ht (rel_nr hk) (rel_nr hc) (rel_upTo hs s0)
      · exact run_of ok_6_4 hl ht (rel_nr hk) (rel_nr hc) (rel_scales hs hs2)
      · exact run_of highS_6_4 hl ht (rel_nr hk) (rel_nr hc) (rel_from hs s1)
    · exact run_of highC_6 hl ht (rel_nr hk) (rel_from hc c1) (rel_R s0 s1)
  · exact run_of highK hl ht (rel_from hk k1) (rel_R c0 c1) (rel_R s0 s1)
end Go.Proofs.TK
