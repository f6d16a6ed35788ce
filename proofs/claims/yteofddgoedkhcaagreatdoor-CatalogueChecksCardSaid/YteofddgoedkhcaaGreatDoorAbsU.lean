/- The abstract interpreter, part U: heaps side by side. -/
import Derived.Test.YteofddgoedkhcaaGreatDoorAbsT
namespace Go.Abs
section
variable {B : Base} {ρ ρ' : Env} {H H1 H' H1' : AHeap} {w w' : World} {nx nx' : Pos}

/-- Part of a heap. -/
def Sub (H1 H : AHeap) : Prop := ∀ id k, PT.get id H1 = some k → PT.get id H = some k

theorem Sub.refl (H : AHeap) : Sub H H := fun _ _ h => h

theorem Sim.sub (h : Sim B ρ H w) (hs : Sub H1 H) : Sim B ρ H1 w where
  base := h.base
  cells := fun id ro l e => h.cells id ro l (hs _ _ e)
  objs := fun id k e => h.objs id k (hs _ _ e)
  inj := fun i j x y b o p e1 e2 => h.inj i j x y b o p (hs _ _ e1) (hs _ _ e2)
  low := h.low

theorem Own.sub (hs : Sub H1 H) {b : Nat} (h : Own ρ H1 b) : Own ρ H b := by
  obtain ⟨id, k, o, e1, e2, e3⟩ := h
  exact ⟨id, k, o, hs _ _ e1, e2, e3⟩

theorem Step.sub (h : Step ρ H nx w ρ' H' nx' w') (hs : Sub H1' H') : Step ρ H nx w ρ' H1' nx' w' where
  ext := h.ext
  fresh := h.fresh
  size := h.size
  os := h.os
  tape := h.tape
  output := h.output
  frame := h.frame
  orig := fun b o => h.orig b (o.sub hs)
  dom := fun id k e => h.dom id k (hs _ _ e)

/-- Two steps whose new names lie in one stretch. -/
theorem Step.join {ρ1 ρ2 : Env} {H2 : AHeap} {w1 w2 : World} {lo a b hi : Pos} (h : Step ρ H lo w ρ1 H1 hi w1) (k : Step ρ1 H1 a w1 ρ2 H2 b w2) (l1 : lo.toNat ≤ a.toNat) (l2 : b.toNat ≤ hi.toNat) :
    Step ρ H lo w ρ2 H2 hi w2 where
  ext := Env.le_trans h.ext k.ext
  fresh := fun id e e2 => by
    by_cases e1 : ρ1 id = none
    · have := k.fresh id e1 e2; omega
    · exact h.fresh id e e1
  size := Nat.le_trans h.size k.size
  os := k.os.trans h.os
  tape := k.tape.trans h.tape
  output := k.output.trans h.output
  frame := fun b hb ho => by
    rw [k.frame b (Nat.lt_of_lt_of_le hb h.size) (fun o => ho (h.orig b o hb))]
    exact h.frame b hb ho
  orig := fun b o hb => h.orig b (k.orig b o (Nat.lt_of_lt_of_le hb h.size)) hb
  dom := fun id b e => by
    rcases k.dom id b e with ⟨k0, e1⟩ | q
    · rcases h.dom id k0 e1 with q | q
      · exact .inl q
      · exact .inr q
    · exact .inr ⟨by omega, by omega⟩

theorem Sim.mapd (h : Sim B ρ H w) {id : Pos} {k : Blk} (e : PT.get id H = some k) : ρ id ≠ none := by
  by_cases hk : k.isCells = true
  · cases k with
    | cells ro l => obtain ⟨b, o, m, q, _⟩ := h.cells id ro l e; rw [q]; simp
    | loop => cases hk
    | dfr => cases hk
  · obtain ⟨b, m, o, q, _⟩ := h.objs id k e (by simpa using hk); rw [q]; simp

/-- What H' is: the outcome of the step on a part, and the rest as it was. -/
def Rest (H H1 H1' H' : AHeap) : Prop := ∀ id k, PT.get id H' = some k → PT.get id H1' = some k ∨ (PT.get id H1 = none ∧ PT.get id H = some k ∧ k.ro = false ∧ k.isCells = true)

theorem rest_block (hS : Sim B ρ H w) (hsub : Sub H1 H) (hst : Step ρ H1 nx w ρ' H1' nx' w') {id : Pos} {k : Blk} (h1 : PT.get id H1 = none) (h2 : PT.get id H = some k) {b : Nat} {o : Nat × Nat} (r : ρ id = some (b, o)) : w'.heap[b]? = w.heap[b]? := by
  have hb : b < w.heap.size := hS.blk_lt h2 r
  refine hst.frame b hb fun ho => ?_
  obtain ⟨i, x, p, e1, _, e3⟩ := ho
  have hne : i ≠ id := fun q => by subst q; rw [h1] at e1; cases e1
  exact hS.inj i id _ _ _ _ _ (hsub _ _ e1) h2 hne e3 r

theorem glue (hS : Sim B ρ H w) (hsub : Sub H1 H) (hst : Step ρ H1 nx w ρ' H1' nx' w') (hS' : Sim B ρ' H1' w') (hR : Rest H H1 H1' H') :
    Sim B ρ' H' w' ∧ Step ρ H nx w ρ' H' nx' w' := by
  have cross : ∀ (i j : Pos) (x y : Blk) (b : Nat) (o p : Nat × Nat), PT.get i H1' = some x → PT.get j H1 = none → PT.get j H = some y → y.ro = false → y.isCells = true → i ≠ j → ρ' i = some (b, o) → ρ' j = some (b, p) → False := by
    intro i j x y b o p e1 e2 e3 hro hcl hne r1 r2
    -- j lay there before
    have hj := hS.mapd e3
    obtain ⟨⟨b0, p0⟩, hj0⟩ := Option.ne_none_iff_exists'.1 hj
    have hj1 := hst.ext _ _ hj0
    rw [r2] at hj1; cases hj1
    have hb : b < w.heap.size := hS.blk_lt e3 hj0
    rcases hst.dom i x e1 with ⟨x0, q⟩ | q
    · have hi := hS.mapd (hsub _ _ q)
      obtain ⟨⟨b1, o1⟩, hi0⟩ := Option.ne_none_iff_exists'.1 hi
      have hi1 := hst.ext _ _ hi0
      rw [r1] at hi1; cases hi1
      exact hS.inj i j _ _ _ _ _ (hsub _ _ q) e3 hne hi0 hj0
    · by_cases hx : x.ro = false
      · obtain ⟨i2, x2, o2, q1, q2, q3⟩ := hst.orig b ⟨i, x, o, e1, hx, r1⟩ hb
        have hne2 : i2 ≠ j := fun q => by subst q; rw [e2] at q1; cases q1
        exact hS.inj i2 j _ _ _ _ _ (hsub _ _ q1) e3 hne2 q3 hj0
      · cases x with
        | cells ro l =>
          have hro' : ro = true := by simpa [Blk.ro] using hx
          obtain ⟨b2, o2, m2, q1, _, q3, _⟩ := hS'.cells i ro l e1
          rw [r1] at q1; cases q1
          have h1 := q3.old hro'
          cases y with
          | cells ro2 l2 =>
            obtain ⟨b3, o3, m3, q4, _, q6, _⟩ := hS.cells j ro2 l2 e3
            rw [hj0] at q4; cases q4
            have := q6.own (by simpa [Blk.ro] using hro)
            omega
          | loop => cases hcl
          | dfr => cases hcl
        | loop => exact hx rfl
        | dfr => exact hx rfl
  refine ⟨⟨hS'.base, fun id ro l e => ?_, fun id k e hk => ?_, fun i j x y b o p e1 e2 hne r1 r2 => ?_, hS'.low⟩, ?_⟩
  · rcases hR id _ e with e | ⟨e1, e2, _, _⟩
    · exact hS'.cells id ro l e
    · obtain ⟨b, o, m, q1, q2, q3, q4, q5, q6⟩ := hS.cells id ro l e2
      have hb := rest_block hS hsub hst e1 e2 q1
      have hc : ∀ i, w'.cell? ⟨b, i, none⟩ = w.cell? ⟨b, i, none⟩ := fun i => by unfold World.cell?; rw [hb]
      have hf : ∀ i, w'.frozen? ⟨b, i, none⟩ = w.frozen? ⟨b, i, none⟩ := fun i => by unfold World.frozen?; rw [hb]
      refine ⟨b, o, m, hst.ext _ _ q1, Nat.lt_of_lt_of_le q2 hst.size, q3, fun i v hv => ?_, q5, fun hro i hi => ?_⟩
      · rw [hc]; obtain ⟨c, c1, c2⟩ := q4 i v hv; exact ⟨c, c1, c2.mono hst.ext⟩
      · rw [hc, hf]; exact q6 hro i hi
  · rcases hR id _ e with e | ⟨e1, e2, _, hk'⟩
    · exact hS'.objs id k e hk
    · rw [hk] at hk'; cases hk'
  · rcases hR i _ e1 with e1 | ⟨a1, a2, a3, a4⟩
    · rcases hR j _ e2 with e2 | ⟨b1, b2, b3, b4⟩
      · exact hS'.inj i j x y b o p e1 e2 hne r1 r2
      · exact cross i j x y b o p e1 b1 b2 b3 b4 hne r1 r2
    · rcases hR j _ e2 with e2 | ⟨b1, b2, b3, b4⟩
      · exact cross j i y x b p o e2 a1 a2 a3 a4 (Ne.symm hne) r2 r1
      · obtain ⟨⟨c1, d1⟩, hi0⟩ := Option.ne_none_iff_exists'.1 (hS.mapd a2)
        obtain ⟨⟨c2, d2⟩, hj0⟩ := Option.ne_none_iff_exists'.1 (hS.mapd b2)
        have hi1 := hst.ext _ _ hi0
        have hj1 := hst.ext _ _ hj0
        rw [r1] at hi1; cases hi1
        rw [r2] at hj1; cases hj1
        exact hS.inj i j x y b o p a2 b2 hne hi0 hj0
  · refine ⟨hst.ext, hst.fresh, hst.size, hst.os, hst.tape, hst.output, fun b hb ho => hst.frame b hb fun q => ho (q.sub hsub), fun b ho hb => ?_, fun id k e => ?_⟩
    · obtain ⟨id, k, o, e1, e2, e3⟩ := ho
      rcases hR id _ e1 with e | ⟨a1, a2, a3, a4⟩
      · exact (hst.orig b ⟨id, k, o, e, e2, e3⟩ hb).sub hsub
      · obtain ⟨⟨c1, d1⟩, hi0⟩ := Option.ne_none_iff_exists'.1 (hS.mapd a2)
        have hi1 := hst.ext _ _ hi0
        rw [e3] at hi1; cases hi1
        exact ⟨id, k, o, a2, a3, hi0⟩
    · rcases hR id _ e with e | ⟨a1, a2, a3, a4⟩
      · rcases hst.dom id k e with ⟨k0, q⟩ | q
        · exact .inl ⟨k0, hsub _ _ q⟩
        · exact .inr q
      · exact .inl ⟨k, a2⟩
end
end Go.Abs
