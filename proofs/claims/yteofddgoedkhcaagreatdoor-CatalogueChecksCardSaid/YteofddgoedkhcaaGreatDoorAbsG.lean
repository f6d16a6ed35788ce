/- The abstract interpreter, part G: aggregates, fields, elements, slices: the rest of what touches no memory; what the operations are made from. -/
import Derived.Test.YteofddgoedkhcaaGreatDoorAbsF
namespace Go.Abs

def nthL : Nat → List AV → Option AV
  | _, [] => none
  | 0, a :: _ => some a
  | n + 1, _ :: l => nthL n l

theorem nthL_eq : ∀ (n : Nat) (l : List AV), nthL n l = l[n]?
  | _, [] => by simp [nthL]
  | 0, a :: l => by simp [nthL]
  | n + 1, a :: l => by simp [nthL, nthL_eq n l]

def lenL : List AV → Nat
  | [] => 0
  | _ :: l => Nat.succ (lenL l)
theorem lenL_eq : ∀ l : List AV, lenL l = l.length
  | [] => rfl
  | _ :: l => by simp [lenL, lenL_eq l]

def m2 {α β γ : Type} (f : α → β → γ) (x : Option α) (y : Option β) : Option γ := match x, y with
  | some a, some b => some (f a b)
  | _, _ => none
theorem m2_some {α β γ : Type} {f : α → β → γ} {x : Option α} {y : Option β} {r : γ} (h : m2 f x y = some r) : ∃ a b, x = some a ∧ y = some b ∧ r = f a b := by
  unfold m2 at h
  split at h
  · simp at h; exact ⟨_, _, rfl, rfl, h.symm⟩
  · cases h
def m3 {α β γ δ : Type} (f : α → β → γ → δ) (x : Option α) (y : Option β) (z : Option γ) : Option δ := match x, y, z with
  | some a, some b, some c => some (f a b c)
  | _, _, _ => none
theorem m3_some {α β γ δ : Type} {f : α → β → γ → δ} {x : Option α} {y : Option β} {z : Option γ} {r : δ} (h : m3 f x y z = some r) : ∃ a b c, x = some a ∧ y = some b ∧ z = some c ∧ r = f a b c := by
  unfold m3 at h
  split at h
  · simp at h; exact ⟨_, _, _, rfl, rfl, rfl, h.symm⟩
  · cases h

/-! ### Filling -/
def fillA (e : AX → AV) : List (Nat × Nat × AX) → List AV → Option (List AV)
  | [], z => some z
  | (off, n, x) :: ps, z =>
    match (e x).flat with
    | true =>
      if lenL (e x).cells = n then
        match putL off (e x).cells z with
        | some z' => fillA e ps z'
        | none => none
      else none
    | false => none

def cparts (gs : List Nat) (place : Nat → Option (Nat × Nat)) : List (Nat × Operand) → Option (List (Nat × Nat × AX))
  | [] => some []
  | (i, x) :: ps => match place i, cox gs x, cparts gs place ps with
    | some (off, n), some a, some l => some ((off, n, a) :: l)
    | _, _, _ => none

theorem foldSet (off : Nat) : ∀ (vs : List Value) (k : Nat) (cells : Array Value), off + k + vs.length ≤ cells.size →
    ((vs.zipIdx k).foldl (fun (cs : Array Value) (cj : Value × Nat) => cs.setIfInBounds (off + cj.2) cj.1) cells).size = cells.size ∧
    ∀ i : Nat, ((vs.zipIdx k).foldl (fun (cs : Array Value) (cj : Value × Nat) => cs.setIfInBounds (off + cj.2) cj.1) cells)[i]? =
      if off + k ≤ i ∧ i < off + k + vs.length then vs[i - (off + k)]? else cells[i]?
  | [], k, cells, _ => by
    refine ⟨rfl, fun i => ?_⟩
    rw [if_neg (by simp)]; rfl
  | v :: vs, k, cells, h => by
    have ih := foldSet off vs (k + 1) (cells.setIfInBounds (off + k) v) (by simp at h ⊢; omega)
    rw [List.zipIdx_cons, List.foldl_cons]
    refine ⟨by rw [ih.1]; simp, fun i => ?_⟩
    rw [ih.2 i]
    by_cases h1 : off + (k + 1) ≤ i ∧ i < off + (k + 1) + vs.length
    · rw [if_pos h1, if_pos (by simp; omega), show i - (off + k) = (i - (off + (k + 1))) + 1 by omega]
      simp
    · rw [if_neg h1]
      by_cases hi : i = off + k
      · subst hi
        rw [if_pos (by simp)]
        simp at h
        rw [Array.getElem?_setIfInBounds_self_of_lt (by omega)]
        simp
      · rw [if_neg (by simp; omega), Array.getElem?_setIfInBounds_ne (by omega)]

section
variable {P : Program} {ρ : Env} {gs : List Nat} {e : AX → AV} {η : Operand → Value}

theorem fillA_sound (hE : Evs gs ρ e η) (place : Nat → Option (Nat × Nat)) : ∀ (ps : List (Nat × Operand)) (aps : List (Nat × Nat × AX)) (z z' : List AV) (cs : Array Value),
    cparts gs place ps = some aps → fillA e aps z = some z' → RelL ρ z cs.toList →
    ∃ cs' : Array Value, Instr.fill place cs (ps.map fun (i, x) => (i, η x)) = some cs' ∧ RelL ρ z' cs'.toList
  | [], aps, z, z', cs, h1, h2, hz => by
    simp [cparts] at h1; subst h1
    simp [fillA] at h2; subst h2
    exact ⟨cs, rfl, hz⟩
  | (i, x) :: ps, aps, z, z', cs, h1, h2, hz => by
    simp only [cparts] at h1
    split at h1
    · rename_i off n a l q1 q2 q3
      simp at h1; subst h1
      simp only [fillA] at h2
      split at h2
      · rename_i hfl
        split at h2
        · rename_i hlen
          split at h2
          · rename_i z1 hz1
            have hr := (hE _ _ q2).cells hfl
            rw [lenL_eq] at hlen
            have hrl := hr.length
            have hvs : (η x).cells.size = n := by rw [← hlen, hrl]; simp
            obtain ⟨t1, t2, t3⟩ := putL_spec hz1
            have hzl := hz.length
            simp at hzl
            simp only [List.map_cons, Instr.fill, q1]
            rw [if_neg (by simp [hvs]; omega)]
            refine fillA_sound hE place ps l z1 z' _ q3 h2 ?_
            have hfold : (η x).cells.zipIdx.foldl (fun (cs : Array Value) (c, j) => cs.setIfInBounds (off + j) c) cs = ((η x).cells.toList.zipIdx 0).foldl (fun (cs : Array Value) (cj : Value × Nat) => cs.setIfInBounds (off + cj.2) cj.1) cs := by
              rw [← Array.foldl_toList]
              simp
            rw [hfold]
            obtain ⟨f1, f2⟩ := foldSet off (η x).cells.toList 0 cs (by simp; omega)
            refine RelL.of_get (by rw [t1]; simp [f1]; exact hzl) fun k u v ha hv => ?_
            rw [Array.getElem?_toList, f2 k] at hv
            rw [t3 k] at ha
            by_cases hk : off ≤ k ∧ k < off + (e a).cells.length
            · rw [if_pos hk] at ha
              rw [if_pos (by rw [← hrl]; omega), Nat.add_zero] at hv
              obtain ⟨v', hv', hr'⟩ := hr.get ha
              rw [hv] at hv'; cases hv'; exact hr'
            · rw [if_neg hk] at ha
              rw [if_neg (by rw [← hrl]; omega)] at hv
              obtain ⟨v', hv', hr'⟩ := hz.get ha
              rw [Array.getElem?_toList, hv] at hv'; cases hv'; exact hr'
          · cases h2
        · cases h2
      · cases h2
    · cases h1
end
end Go.Abs
