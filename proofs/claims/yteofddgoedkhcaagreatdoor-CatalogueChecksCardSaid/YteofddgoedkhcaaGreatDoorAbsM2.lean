/- The abstract interpreter, part M2: names only grow. -/
import Derived.Test.YteofddgoedkhcaaGreatDoorAbsM
namespace Go.Abs

def MonoC (cf : CallR) : Prop := ∀ f args H nx v H' nx', cf f args H nx = some (v, H', nx') → nx.toNat ≤ nx'.toNat
def MonoY (yf : YieldR) : Prop := ∀ id args H nx v H' nx', yf id args H nx = some (v, H', nx') → nx.toNat ≤ nx'.toNat
def MonoE (ex : ExecR) : Prop := ∀ c rd s x s', ex c rd s = some (x, s') → s.nx.toNat ≤ s'.nx.toNat

theorem apA_mono {H : AHeap} {nx : Pos} {n b : Nat} {s x v : AV} {H' : AHeap} {nx' : Pos} (h : apA H nx n b s x = some (v, H', nx')) : nx.toNat ≤ nx'.toNat := by
  unfold apA at h
  repeat' split at h
  all_goals first
    | (cases h; done)
    | (simp only [frcN_eq, Option.some.injEq, Prod.mk.injEq] at h; obtain ⟨_, _, rfl⟩ := h; first | exact Nat.le_refl _ | (rw [Pos.toNat_succ]; omega))

theorem opA_mono {cf : CallR} {yf : YieldR} (h1 : MonoC cf) (h2 : MonoY yf) {e : AX → AV} {H : AHeap} {nx : Pos} {op : AOp} {v : AV} {H' : AHeap} {nx' : Pos} (h : opA cf yf e H nx op = some (v, H', nx')) : nx.toNat ≤ nx'.toNat := by
  cases op <;> simp only [opA] at h
  case call g args =>
    split at h
    · exact h1 _ _ _ _ _ _ _ h
    · exact h2 _ _ _ _ _ _ _ h
    · cases h
  case app => exact apA_mono h
  all_goals
    (try split at h) <;> first
      | (cases h; done)
      | (simp at h; obtain ⟨_, _, rfl⟩ := h; first | exact Nat.le_refl _ | (rw [Pos.toNat_succ]; omega))

theorem seqA_mono {cf : CallR} {yf : YieldR} (h1 : MonoC cf) (h2 : MonoY yf) : ∀ {os : List AOper} {T : PT AV} {H : AHeap} {nx : Pos} {T' : PT AV} {H' : AHeap} {nx' : Pos}, seqA cf yf os T H nx = some (T', H', nx') → nx.toNat ≤ nx'.toNat
  | [], _, _, _, _, _, _, h => by simp [seqA] at h; obtain ⟨_, _, rfl⟩ := h; exact Nat.le_refl _
  | o :: os, T, H, nx, T', H', nx', h => by
    simp only [seqA] at h
    split at h
    · split at h
      · rename_i v H1 n1 e
        have := opA_mono h1 h2 e
        have := seqA_mono h1 h2 h
        omega
      · cases h
    · exact seqA_mono h1 h2 h
    · cases h

theorem drwA_mono {cf : CallR} {yf : YieldR} (h1 : MonoC cf) (h2 : MonoY yf) : ∀ {os : List (Nat × Nat × AOper)} {Ss : List AHeap} {T : PT AV} {H : AHeap} {nx : Pos} {T' : PT AV} {H' : AHeap} {nx' : Pos}, drwA cf yf os Ss T H nx = some (T', H', nx') → nx.toNat ≤ nx'.toNat
  | [], _, _, _, _, _, _, _, h => by simp [drwA] at h; obtain ⟨_, _, rfl⟩ := h; exact Nat.le_refl _
  | (s, k, o) :: os, Ss, T, H, nx, T', H', nx', h => by
    simp only [drwA] at h
    split at h
    · split at h
      · rename_i v H1 n1 e
        have := opA_mono h1 h2 e
        split at h
        · split at h
          · have := drwA_mono h1 h2 h; omega
          · cases h
        · have := drwA_mono h1 h2 h; omega
        · have := drwA_mono h1 h2 h; omega
      · cases h
    · split at h
      · exact drwA_mono h1 h2 h
      · exact drwA_mono h1 h2 h
    · cases h

section
variable {fns : Nat → Option AFn} {sum : Nat → List AV → AHeap → Option AV} {ex : ExecR}

theorem callA_mono (h : MonoE ex) : MonoC (callA fns sum ex) := by
  intro f args H nx v H' nx' hc
  simp only [callA] at hc
  split at hc
  · simp at hc; obtain ⟨_, _, rfl⟩ := hc; exact Nat.le_refl _
  · split at hc
    · split at hc
      · rename_i s e
        have := h _ _ _ _ _ e
        simp only [endFn] at hc
        split at hc
        · split at hc
          · simp at hc; obtain ⟨_, _, rfl⟩ := hc; exact this
          · cases hc
        · cases hc
      · rename_i s e
        have := h _ _ _ _ _ e
        simp only [endFn] at hc
        split at hc
        · split at hc
          · simp at hc; obtain ⟨_, _, rfl⟩ := hc; exact this
          · cases hc
        · cases hc
      · cases hc
    · cases hc

theorem yieldA_mono (h : MonoE ex) : MonoY (yieldA ex) := by
  intro id args H nx v H' nx' hc
  simp only [yieldA] at hc
  split at hc
  · split at hc
    · split at hc
      · rename_i s1 e1
        have q1 := h _ _ _ _ _ e1
        split at hc
        · split at hc
          · rename_i x s2 e2
            have q2 := h _ _ _ _ _ e2
            split at hc
            · split at hc <;> (simp at hc; obtain ⟨_, _, rfl⟩ := hc; exact Nat.le_trans q1 q2)
            · cases hc
          · cases hc
        · cases hc
      · cases hc
    · cases hc
  · cases hc

theorem execF_mono (h : MonoE ex) : MonoE (execF fns sum ex) := by
  intro c rd s x s' hc
  cases c with
  | skip => simp only [execF, Option.some.injEq, Prod.mk.injEq] at hc; obtain ⟨_, rfl⟩ := hc; exact Nat.le_refl _
  | reg ops =>
    simp only [execF] at hc
    split at hc
    · rename_i e
      have := seqA_mono (callA_mono h) (yieldA_mono h) e
      simp only [Option.some.injEq, Prod.mk.injEq] at hc; obtain ⟨_, rfl⟩ := hc; exact this
    · cases hc
  | drw ops =>
    simp only [execF] at hc
    split at hc
    · rename_i e
      have := drwA_mono (callA_mono h) (yieldA_mono h) e
      simp only [Option.some.injEq, Prod.mk.injEq] at hc; obtain ⟨_, rfl⟩ := hc; exact this
    · cases hc
  | seq a b =>
    simp only [execF] at hc
    split at hc
    · rename_i s1 e
      exact Nat.le_trans (h _ _ _ _ _ e) (h _ _ _ _ _ hc)
    · exact h _ _ _ _ _ hc
  | cond t a b =>
    simp only [execF] at hc
    split at hc
    · exact h _ _ _ _ _ hc
    · exact h _ _ _ _ _ hc
    · cases hc
  | block id a =>
    simp only [execF] at hc
    split at hc
    · rename_i i s1 e
      have := h _ _ _ _ _ e
      split at hc <;> (simp only [Option.some.injEq, Prod.mk.injEq] at hc; obtain ⟨_, rfl⟩ := hc; exact this)
    · exact h _ _ _ _ _ hc
  | loop a =>
    simp only [execF] at hc
    split at hc
    · rename_i s1 e
      exact Nat.le_trans (h _ _ _ _ _ e) (h _ _ _ _ _ hc)
    · exact h _ _ _ _ _ hc
  | rng f ps asg body =>
    simp only [execF] at hc
    split at hc
    · cases hc
    · split at hc
      · split at hc
        · rename_i e
          have := callA_mono h _ _ _ _ _ _ _ e
          rw [Pos.toNat_succ, Pos.toNat_succ] at this
          split at hc <;> first
            | (simp only [Option.some.injEq, Prod.mk.injEq] at hc; obtain ⟨_, rfl⟩ := hc; exact Nat.le_trans (by omega) this)
            | (cases hc; done)
        · cases hc
      · cases hc
  | exit id => simp only [execF, Option.some.injEq, Prod.mk.injEq] at hc; obtain ⟨_, rfl⟩ := hc; exact Nat.le_refl _
  | ret => simp only [execF, Option.some.injEq, Prod.mk.injEq] at hc; obtain ⟨_, rfl⟩ := hc; exact Nat.le_refl _
  | bad => cases hc

theorem exec_mono : ∀ n, MonoE (exec fns sum n)
  | 0 => fun _ _ _ _ _ h => by cases h
  | n + 1 => execF_mono (exec_mono n)
end
end Go.Abs
