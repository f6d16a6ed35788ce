/- The examples' check, run once; what a call of it comes to in any state. -/
import Derived.Test.YteofddgoedkhcaaGreatDoorKxFns
namespace Go.Proofs.TK
open Go Go.Abs Go.Proofs

def pow10s : List Nat := [1, 10, 100, 1000, 10000, 100000, 1000000, 10000000, 100000000, 1000000000, 10000000000, 100000000000, 1000000000000, 10000000000000, 100000000000000, 1000000000000000, 10000000000000000, 100000000000000000, 1000000000000000000, 10000000000000000000]
def tbl : List AV := pow10s.map fun n => .int .u64 (.ofNat n)
def H0 : AHeap := PT.put (Pos.ofNat 0) (some (.cells true tbl)) .lf
def n0 : Pos := Pos.ofNat 10
def noSum (_ : Nat) (_ : List AV) (_ : AHeap) : Option AV := none
noncomputable def isT (v : AV) (_ : AHeap) (_ : Pos) : Bool := boolK v (fun _ => true) (fun _ => false)

theorem H0_get {id : Pos} {k : Blk} (h : PT.get id H0 = some k) : id = Pos.ofNat 0 ∧ k = .cells true tbl := by
  by_cases hid : id = Pos.ofNat 0
  · subst hid
    rw [H0, PT.get_put_same] at h
    cases h; exact ⟨rfl, rfl⟩
  · rw [H0, PT.get_put_other _ _ _ _ hid, PT.get_lf] at h; cases h

theorem tables : Tabs gs H0 := ⟨fun id k h => ⟨tbl, (H0_get h).2⟩, fun id k h => ⟨0, by simp [gs], (H0_get h).1⟩⟩
theorem names_low : ∀ g ∈ gs, (Pos.ofNat g).toNat < n0.toNat := by
  intro g hg
  simp [gs] at hg
  rw [n0, Pos.toNat_ofNat, Pos.toNat_ofNat]
  omega
theorem noSum_ok (n : Array Obj) : SumOK Tryz.prog gs (mkB Tryz.prog gs n) noSum := fun _ _ _ _ h => by cases h

theorem tbl_plain {ρ : Env} : ∀ v ∈ tbl, ∀ c, Rel ρ v c → Rel (globEnv gs) v c := by
  intro v hv c hr
  simp only [tbl, List.mem_map] at hv
  obtain ⟨n, _, rfl⟩ := hv
  simpa [Rel] using hr

/-- Does the heap hold the table? -/
def hasTbl (H : AHeap) : Bool := match PT.get (Pos.ofNat 0) H with
  | some (.cells true l) => sameL l tbl
  | _ => false

theorem hasTbl_sub {H : AHeap} (h : hasTbl H = true) : Sub H0 H := by
  intro id k hk
  obtain ⟨rfl, rfl⟩ := H0_get hk
  unfold hasTbl at h
  split at h
  · rename_i l hl
    rw [hl, sameL_eq h]
  · cases h

theorem laid_sim {B : Base} {ρ : Env} {H : AHeap} {w : World} (hS : Sim B ρ H w) (hG : Glob gs ρ) (h : hasTbl H = true) : Laid gs H0 w :=
  laid_of_sim hS hG (hasTbl_sub h) (fun id l hl => by obtain ⟨_, q⟩ := H0_get hl; cases q; decide) (fun id l hl v hv c hr => by obtain ⟨_, q⟩ := H0_get hl; cases q; exact tbl_plain v hv c hr)

theorem isT_spec {v : AV} {H : AHeap} {nx : Pos} (h : isT v H nx = true) : v = .bool true := by
  rcases boolK_some h with ⟨q, _⟩ | ⟨_, q⟩
  · exact q
  · cases q

set_option maxRecDepth 1000000 in
theorem known_run : topK fns noSum 1000000 5 [] H0 n0 isT = true := by kernel_rfl

theorem known_calls {w : World} (hl : Laid gs H0 w) : Calls Tryz.prog 5 #[] w (fun e w' => e = .returned (.bool true) ∧ Keeps w w') := by
  obtain ⟨v, H', nx', h1, h2⟩ := topK_some _ _ known_run
  obtain rfl := isT_spec h2
  refine (run_call mixed fns_ok (noSum_ok _) tables names_low h1 hl (by exact RelL.nil)).mono ?_
  rintro e w' ⟨c, ρ', rfl, hk, hr⟩
  simp only [Rel] at hr
  subst hr
  exact ⟨rfl, hk⟩

def sumK (f : Nat) (args : List AV) (H : AHeap) : Option AV := bif Nat.beq f 5 then (match args with
  | [] => bif hasTbl H then some (.bool true) else none
  | _ => none) else none

theorem sumK_ok (n : Array Obj) : SumOK Tryz.prog gs (mkB Tryz.prog gs n) sumK := by
  intro f args H v h
  unfold sumK at h
  cases hf : Nat.beq f 5 with
  | false => rw [hf] at h; cases h
  | true =>
    rw [hf] at h
    obtain rfl := Nat.eq_of_beq_eq_true hf
    simp only [cond_true] at h
    split at h
    · cases ht : hasTbl H with
      | false => rw [ht] at h; cases h
      | true =>
        rw [ht] at h
        cases h
        refine ⟨⟨Tryz.f5, by kernel_rfl, by kernel_rfl, by kernel_rfl⟩, fun ρ nx w cargs hS hG hr => ?_⟩
        have : cargs = #[] := by
          simp only [RelL] at hr
          exact Array.toList_inj.1 (by simpa using hr)
        subst this
        refine (known_calls (laid_sim hS hG ht)).mono ?_
        rintro e w' ⟨rfl, hk⟩
        exact ⟨_, ρ, rfl, hS.keep hk.heap hk.size, hk.step _ _ _, by simp [Rel]⟩
    · cases h
end Go.Proofs.TK
