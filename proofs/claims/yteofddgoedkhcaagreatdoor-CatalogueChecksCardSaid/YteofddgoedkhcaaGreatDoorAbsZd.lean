/- The abstract interpreter, part Zd: regions whose order is open. -/
import Derived.Test.YteofddgoedkhcaaGreatDoorAbsZc
namespace Go.Abs
section
variable {P : Program} {gs : List Nat} {B : Base}

theorem ents_spec {aos : List AOper} {ms sorts ord : List Nat} : ∀ (l : List Nat) (E : List Ent), ents aos ms sorts ord l = some E → ∀ (c : Nat) (e : Ent), E[c]? = some e → aos[e.i]? = some e.o ∧ e.m = ms.getD e.i 0 ∧ e.s = e.o.op.sort
  | [], E, h, c, e, he => by simp [ents] at h; subst h; simp at he
  | i :: l, E, h, c, e, he => by
    simp only [ents] at h
    split at h
    · rename_i a r ha hr
      simp at h; subst h
      cases c with
      | zero => simp at he; subst he; exact ⟨ha, rfl, rfl⟩
      | succ c => exact ents_spec l r hr c e (by simpa using he)
    · cases h

theorem copers_at {N : Nat} {ops : Array Oper} : ∀ (os : List Oper) (aos : List AOper), copers P gs N ops os = some aos → ∀ (i : Nat) (ao : AOper), aos[i]? = some ao → ∃ o, os[i]? = some o ∧ coper P gs N ops o = some ao
  | [], aos, h, i, ao, hi => by simp [copers] at h; subst h; simp at hi
  | o :: os, aos, h, i, ao, hi => by
    simp only [copers] at h
    split at h
    · rename_i a l h1 h2
      simp at h; subst h
      cases i with
      | zero => simp at hi; subst hi; exact ⟨o, rfl, h1⟩
      | succ i => exact copers_at os l h2 i ao (by simpa using hi)
    · cases h

theorem edgesOK_at : ∀ (os : List Oper) (k : Nat), edgesOK os k = true → ∀ (i : Nat) (o : Oper), os[i]? = some o → ∀ e ∈ o.after, Region.binds .any e = true → e.on < k + i
  | [], _, _, _, _, h => by simp at h
  | o' :: os, k, h, i, o, hi => by
    simp only [edgesOK, Bool.and_eq_true] at h
    cases i with
    | zero =>
      simp at hi; subst hi
      intro e he hb
      have := List.all_eq_true.1 h.1 e (by simpa using he)
      simpa [hb] using this
    | succ i =>
      intro e he hb
      have := edgesOK_at os (k + 1) h.2 i o (by simpa using hi) e he hb
      omega

theorem rem_all {listed : Array Bool} (h : ∀ i, listed.getD i true = false ∨ True) : ∀ k, rem listed k ≤ k
  | 0 => Nat.le_refl _
  | k + 1 => by
    have := rem_all h k
    simp only [rem]
    split <;> omega

theorem draws_ok (hm : P.follows .mixedOrders = true) : DrawsOK P gs B := by
  intro cf yf hcf hyf N rid ops dl T H nx T' H' nx' hc hd
  unfold cdrw at hc
  split at hc
  · rename_i aos hco
    split at hc
    · rename_i E hE
      split at hc
      · rename_i hok
        simp at hc; subst hc
        simp only [Bool.and_eq_true] at hok
        obtain ⟨⟨hall, hedge⟩, hcov⟩ := hok
        obtain ⟨t, h, x, v, sn, tr, rfl, rfl, rfl, s0, t1, h1, x1⟩ := drw_trace _ _ _ _ _ _ _ _ hd
        rw [List.length_map] at t1 h1 x1
        have ent : ∀ (c : Nat) (e : Ent), E[c]? = some e → (∃ o, ops[e.i]? = some o ∧ OperOK P gs N ops o e.o) ∧ e.m = (masks ops.toList []).getD e.i 0 ∧ e.s = e.o.op.sort := by
          intro c e he
          obtain ⟨a1, a2, a3⟩ := ents_spec _ _ hE c e he
          obtain ⟨o, o1, o2⟩ := copers_at _ _ hco _ _ a1
          exact ⟨⟨o, by simpa using o1, coper_ok o2⟩, a2, a3⟩
        have R : Reg P gs cf yf N ops E t h x v sn := by
          refine ⟨tr, ent, hall, fun i hi => ?_, fun i o ho e he hb => ?_, s0, fun c hc => ?_⟩
          · have := List.all_eq_true.1 hcov i (by simpa using hi)
            obtain ⟨e, he, q⟩ := List.any_eq_true.1 this
            obtain ⟨c, hc, hce⟩ := List.getElem_of_mem he
            exact ⟨c, e, by rw [List.getElem?_eq_getElem hc, hce], Nat.eq_of_beq_eq_true q⟩
          · have := edgesOK_at _ _ hedge i o (by simpa using ho) e he hb
            omega
          · obtain ⟨e, he⟩ : ∃ e, E[c]? = some e := ⟨E[c], List.getElem?_eq_getElem hc⟩
            rcases tr.step c e.s e.k e.o (by simp [he]) with ⟨_, hop, _⟩ | ⟨_, _, _, q⟩
            · obtain ⟨⟨o, _, hok⟩, _⟩ := ent c e he
              exact (op_sound hcf hyf hok.op hop).1
            · rw [q]; exact Nat.le_refl _
        have hle : (x 0).toNat ≤ nx'.toNat := by rw [← x1]; exact R.le (Nat.zero_le _) (Nat.le_refl _)
        refine ⟨hle, fun ρ w a hS hF hG hT hN n r Q hQ => ?_⟩
        rw [← x1] at hF
        have hfalse : ∀ i, (Array.replicate ops.size false).getD i false = false := fun i => by
          rw [Array.getD_eq_getD_getElem?, Array.getElem?_replicate]; split <;> rfl
        have hdn : ∀ d, dn E (Array.replicate ops.size false) d = false := fun d => by
          unfold dn
          split
          · exact hfalse _
          · rfl
        have I0 : Inv B ops E t h x v ρ w a (Array.replicate ops.size false) a { w with drawn := w.drawn + 1 } ρ (h 0) 0 := by
          refine ⟨by simp, (fun i o hi => by rw [hfalse] at hi; cases hi), ?_, rfl, rfl, hS.drew, ?_, Nat.zero_le _, (fun c hc => by omega), (fun c e _ _ hd => by rw [hdn] at hd; cases hd), fun id k => ?_, fun id h0 h1 => absurd h0 h1, fun id k q => ?_⟩
          · have : fT E v (t 0) (dn E (Array.replicate ops.size false)) E.length = t 0 := fT_stay _ 0 (fun d _ => hdn d) _ (Nat.zero_le _)
            rw [this]; exact hT
          · have := (Step.refl ρ (h 0) (x 0) w).drew
            exact ⟨this.ext, fun id a b => absurd a b, this.size, this.os, this.tape, this.output, this.frame, this.orig, fun id k e => .inl ⟨k, e⟩⟩
          · refine ⟨.inl, fun q => ?_⟩
            rcases q with q | ⟨c, _, _, q, _⟩
            · exact q
            · rw [hdn] at q; cases q
          · rintro ⟨q1, q2⟩
            obtain ⟨b, o, hb⟩ := hS.mapped q
            have := hF id q1 q2
            rw [hb] at this; cases this
        refine wpIn_region_any hm (any_sound hcf hyf R hF hG hN (fun ρ' a' w' s1 s2 s3 s4 s5 => ?_) _ _ _ _ _ _ _ I0 (rem_all (fun _ => .inr trivial) _))
        rw [h1] at s1
        rw [h1, x1] at s2
        rw [t1] at s3
        exact hQ ρ' a' w' s1 s2 s3 s4 s5
      · cases hc
    · cases hc
  · cases hc

/-- What abstract code is made from. -/
def mkB (P : Program) (gs : List Nat) (h : Array Obj) : Base := { n := h.size, old := h, cr := fun m c ac => ∃ N, N ≤ m ∧ cc P gs N c = some ac }

theorem mkB_ok (n : Array Obj) : CrOK P gs (mkB P gs n) := fun _ _ _ => Iff.rfl

/-- THE INTERPRETER IS SOUND: a call of a function of the program's. -/
theorem call_ok (hm : P.follows .mixedOrders = true) {fns : Nat → Option AFn} {sum : Nat → List AV → AHeap → Option AV} {n0 : Array Obj} (hfns : FnsOK P gs fns) (hsum : SumOK P gs (mkB P gs n0) sum) {m f : Nat} {args : List AV} {H : AHeap} {nx : Pos} {v : AV} {H' : AHeap} {nx' : Pos}
    (h : top fns sum m f args H nx = some (v, H', nx')) : CallSpec P gs (mkB P gs n0) f args H nx v H' nx' :=
  top_sound (draws_ok hm) hfns hsum (mkB_ok n0) h

/-- The same, of code. -/
theorem code_ok (hm : P.follows .mixedOrders = true) {fns : Nat → Option AFn} {sum : Nat → List AV → AHeap → Option AV} {n0 : Array Obj} (hfns : FnsOK P gs fns) (hsum : SumOK P gs (mkB P gs n0) sum) {m N : Nat} {c : Code} {ac : AC} {s : St} {x : AEx} {s' : St}
    (hc : cc P gs N c = some ac) (h : exec fns sum m ac none s = some (x, s')) : CodeSpec P gs (mkB P gs n0) N c none s x s' :=
  (exec_sound (draws_ok hm) hfns hsum (mkB_ok n0) m).1 _ _ _ _ _ _ _ hc h
end
end Go.Abs
