/- What strconv.Itoa answers at an integer that is known within bounds alone: some text of at most 21 bytes. -/
import Derived.Test.YteofddgoedkhcaaGreatDoorKxKnown
import Derived.Test.YteofddgoedkhcaaGreatDoorKxLay
import Derived.Lib.LaidTab
import Derived.Lib.ItoaLen
namespace Go.Proofs.TK
open Go Go.Abs Go.Proofs Go.Sort

theorem keeps_grow (w : World) (k : Nat) (os : Array Obj) : Keeps w (grow (w.drewN k) os) where
  heap := fun b hb => by
    show (w.heap ++ os)[b]? = _
    rw [Array.getElem?_append_left hb]
  size := by
    show _ ≤ (w.heap ++ os).size
    simp
  os := rfl
  tape := rfl
  output := rfl

def powName : String := "internal/strconv.uint64pow10"
theorem gPow : Tryz.prog.globalNamed powName = some 0 := by kernel_rfl

/-- The table, below the base. -/
theorem tab_of {w0 w : World} (h : Lib.TabIs Tryz.prog w0 powName .u64 Lib.pow10Tab) (hl : ∀ b, b < w0.heap.size → w.heap[b]? = w0.heap[b]?) : Lib.TabIs Tryz.prog w powName .u64 Lib.pow10Tab := by
  unfold Lib.TabIs World.var? at h ⊢
  rw [gPow] at h ⊢
  simp only [Option.bind_some] at h ⊢
  have h0 : 0 < w0.heap.size := by
    rcases Nat.lt_or_ge 0 w0.heap.size with q | q
    · exact q
    · rw [Array.getElem?_eq_none q] at h; cases h
  rw [hl 0 h0]; exact h

def sumC (f : Nat) (args : List AV) (H : AHeap) : Option AV := bif Nat.beq f 5 then (match args with
  | [] => bif hasTbl H then some (.bool true) else none
  | _ => none) else bif Nat.beq f 20 then (match args with
  | [.rng .i64 (.ofNat _) (.ofNat b)] => bif Nat.ble b 9223372036854775807 then some (.anys 21) else none
  | _ => none) else none

theorem fn20 : ∃ fn, Tryz.prog.funcs[20]? = some fn ∧ (fn.name == "runtime.NumGoroutine") = false ∧ fn.body.isNone = false := ⟨Tryz.f20, by kernel_rfl, by kernel_rfl, by kernel_rfl⟩

theorem sumC_ok {w0 : World} (h0 : Lib.TabIs Tryz.prog w0 powName .u64 Lib.pow10Tab) : SumOK Tryz.prog gs (mkB Tryz.prog gs w0.heap) sumC := by
  intro f args H v h
  unfold sumC at h
  cases hf : Nat.beq f 5 with
  | true =>
    refine sumK_ok w0.heap f args H v ?_
    rw [hf] at h
    unfold sumK
    rw [hf]; exact h
  | false =>
    rw [hf] at h
    simp only [cond_false] at h
    cases hf2 : Nat.beq f 20 with
    | false => rw [hf2] at h; cases h
    | true =>
      rw [hf2] at h
      obtain rfl := Nat.eq_of_beq_eq_true hf2
      simp only [cond_true] at h
      split at h
      · rename_i a b
        cases hb : Nat.ble b 9223372036854775807 with
        | false => rw [hb] at h; cases h
        | true =>
          rw [hb] at h
          cases h
          rw [Nat.ble_eq] at hb
          refine ⟨fn20, fun ρ nx w cargs hS _ hr => ?_⟩
          simp only [RelL, Rel] at hr
          obtain ⟨_, _, e1, ⟨n, n1, n2, rfl⟩, rfl⟩ := hr
          obtain rfl : cargs = #[.int .i64 n] := Array.toList_inj.1 e1
          have m1 : 0 ≤ n := Int.le_trans (Int.natCast_nonneg a) n1
          have m2 : n ≤ 9223372036854775807 := by
            have : Int.ofNat b ≤ 9223372036854775807 := by simp; omega
            omega
          refine (Any.strconv_Itoa laysM171 n (by omega) m2 w (tab_of h0 hS.low)).mono ?_
          rintro e w' ⟨rfl, k, os, rfl⟩
          have hk := keeps_grow w k os
          refine ⟨_, ρ, rfl, hS.keep hk.heap hk.size, hk.step _ _ _, ?_⟩
          simp only [Rel]
          exact ⟨_, rfl, by simpa [ByteArray.size] using Lib.itoa_length_le n (by omega) m2⟩
      · cases h
end Go.Proofs.TK
