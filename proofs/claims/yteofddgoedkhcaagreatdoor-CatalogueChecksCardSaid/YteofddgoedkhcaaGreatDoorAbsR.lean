/- The abstract interpreter, part R: rounds of ranges over functions; code. -/
import Derived.Test.YteofddgoedkhcaaGreatDoorAbsQ
import Derived.Test.YteofddgoedkhcaaGreatDoorAbsM2
namespace Go.Abs
section
variable {P : Program} {gs : List Nat} {B : Base}

/-- What abstract code is made from. -/
def CrOK (P : Program) (gs : List Nat) (B : Base) : Prop := ∀ m c ac, B.cr m c ac ↔ ∃ N, N ≤ m ∧ cc P gs N c = some ac

theorem setPs_rel {ρ : Env} : ∀ (prm : List Tmp) (ps : List Pos) (args : List AV) (cargs : List Value) (T T' : PT AV) (tmps : Array Value), prm.map Pos.ofNat = ps → setPs ps args T = some T' → RelL ρ args cargs → (∀ p ∈ prm, p < tmps.size) → RelA ρ T tmps →
    RelA ρ T' ((prm.zip cargs).foldl (fun (tmps : Array Value) (ta : Tmp × Value) => tmps.setIfInBounds ta.1 ta.2) tmps) ∧ ((prm.zip cargs).foldl (fun (tmps : Array Value) (ta : Tmp × Value) => tmps.setIfInBounds ta.1 ta.2) tmps).size = tmps.size ∧ cargs.length = prm.length
  | [], ps, args, cargs, T, T', tmps, hp, h, hr, _, hT => by
    simp at hp; subst hp
    cases args with
    | nil =>
      simp [setPs] at h; subst h
      simp only [RelL] at hr; subst hr
      exact ⟨hT, rfl, rfl⟩
    | cons a l => simp [setPs] at h
  | q :: prm, ps, args, cargs, T, T', tmps, hp, h, hr, hin, hT => by
    simp at hp; subst hp
    cases args with
    | nil => simp [setPs] at h
    | cons a l =>
      simp only [setPs] at h
      simp only [RelL] at hr
      obtain ⟨c, cs, rfl, hv, hr⟩ := hr
      have := setPs_rel prm _ l cs _ T' (tmps.setIfInBounds q c) rfl h hr (fun p hp => by simp; exact hin p (by simp [hp])) (hT.put hv (hin q (by simp)))
      simp only [List.zip_cons_cons, List.foldl_cons, List.length_cons]
      exact ⟨this.1, by rw [this.2.1]; simp, by rw [this.2.2]⟩

theorem zip_fold (prm : Array Tmp) (cargs : Array Value) (tmps : Array Value) :
    (prm.zip cargs).foldl (fun tmps (t, a) => tmps.setIfInBounds t a) tmps = (prm.toList.zip cargs.toList).foldl (fun (tmps : Array Value) (ta : Tmp × Value) => tmps.setIfInBounds ta.1 ta.2) tmps := by
  rw [← Array.foldl_toList, Array.toList_zip]

theorem loop_obj {ρ : Env} {H : AHeap} {w : World} (hS : Sim B ρ H w) {id : Pos} {rdy : Bool} {pend : Option (Option Nat)} {T : PT AV} {ps : List Pos} {ag bd : AC} (hg : PT.get id H = some (.loop rdy pend T ps ag bd)) {b : Nat} {o : Nat × Nat}
    (r : ρ id = some (b, o)) : ∃ m l, ρ id = some (b, 0, m) ∧ w.heap[b]? = some (.loop l) ∧ LoopOK B ρ l rdy pend T ps ag bd := by
  obtain ⟨b', m, ob, e1, e2, e3, e4⟩ := hS.objs id _ hg rfl
  rw [r] at e1; cases e1
  obtain ⟨l, rfl, q⟩ := e4
  exact ⟨m, l, r, e3, q⟩

/-- The record is written. -/
theorem loop_put {ρ : Env} {H : AHeap} {w : World} (hS : Sim B ρ H w) {id : Pos} {rdy rdy' : Bool} {pend pend' : Option (Option Nat)} {T : PT AV} {ps : List Pos} {ag bd : AC} (hg : PT.get id H = some (.loop rdy pend T ps ag bd)) {b m : Nat} {l : Loop}
    (r : ρ id = some (b, 0, m)) (q : LoopOK B ρ l rdy pend T ps ag bd) (nx : Pos) (st : LoopState) (pd : Option Code) (h1 : st = stOf rdy' pend') (h2 : pd = pend'.map jmp) :
    Sim B ρ (PT.put id (some (.loop rdy' pend' T ps ag bd)) H) (w.putObj b (.loop { l with state := st, pending := pd })) ∧
      Step ρ H nx w ρ (PT.put id (some (.loop rdy' pend' T ps ag bd)) H) nx (w.putObj b (.loop { l with state := st, pending := pd })) := by
  refine hS.putObj hg rfl r (fun k' hk' => ?_) nx
  cases hk'
  exact ⟨rfl, _, rfl, ⟨h1, h2, q.tmps, q.params, q.inside, q.assign, q.body⟩⟩

theorem yield_sound {ex : ExecR} (hex : ExecSpec P gs B ex) (hmono : MonoE ex) (hB : CrOK P gs B) : YieldsOK P gs B (yieldA ex) := by
  intro id args H nx r H' nx' h
  simp only [yieldA] at h
  split at h
  · rename_i T ps asg body hg
    split at h
    · rename_i T1 hps
      split at h
      · rename_i s1 he1
        split at h
        · rename_i T2 ps2 asg2 body2 hg1
          split at h
          · rename_i x s2 he2
            split at h
            · rename_i T3 ps3 asg3 body3 hD2 hg2
              -- what the three ways out have in common
              have common : ∀ (jump : Option (Option Nat)) (v : AV) (rdy' : Bool), H' = PT.put id (some (.loop rdy' jump T3 ps3 asg3 body3)) s2.H → nx' = s2.nx → r = v → v = .bool rdy' → rdy' = jump.isNone →
                  (∀ (b : Nat) (R : Ending → World → Prop) (a : Act) (w : World), (∃ v w', (Instr.endRound b (jump.map jmp)).run P w = .ok v w' ∧ R (.returned v) w') → roundPost P b R x.toExit a w) → YieldSpec P gs B id args H nx r H' nx' := by
                intro jump v rdy' hH hnx hr hv hrdy hway
                subst hH; subst hnx; subst hr; subst hv
                -- the two runs grow the names
                have le1 : nx.toNat ≤ s1.nx.toNat := hmono _ _ _ _ _ he1
                have le2 : s1.nx.toNat ≤ s2.nx.toNat := by have := hmono _ _ _ _ _ he2; exact this
                refine ⟨by omega, fun ρ w cargs hS hF hG hra b o hb => ?_⟩
                obtain ⟨m, l, r0, hl, q⟩ := loop_obj hS hg hb
                obtain ⟨N1, hN1, hc1⟩ := (hB _ _ _).1 q.assign
                obtain ⟨N2, hN2, hc2⟩ := (hB _ _ _).1 q.body
                obtain ⟨t1, t2, t3⟩ := setPs_rel l.params.toList ps args cargs.toList T T1 l.tmps q.params hps hra q.inside q.tmps
                refine ⟨l, hl, by simpa using t3, fun n r' => ?_⟩
                rw [zip_fold]
                have cs1 := hex N1 l.assign asg (some id) _ _ _ hc1 he1
                have cs2 := hex N2 l.body body (some id) _ _ _ hc2 he2
                refine roundIn_of_wpIn (F := Wd r') trivial ?_
                have rnd : Rnd ρ (some id) (some b) := .inr ⟨id, b, o, rfl, rfl, hb⟩
                refine cs1.spec ρ w { tmps := (l.params.toList.zip cargs.toList).foldl (fun (tmps : Array Value) (ta : Tmp × Value) => tmps.setIfInBounds ta.1 ta.2) l.tmps, defers := [] } hS (hF.fst le2) hG t1 (by rw [t2]; exact hN1) rfl n (some b) rnd _ fun ρ1 a1 w1 S1 st1 rt1 sz1 d1 => ?_
                have hb1 := st1.ext _ _ r0
                obtain ⟨m1, l1, r1, hl1, q1⟩ := loop_obj S1 hg1 hb1
                obtain ⟨S2, st2⟩ := loop_put (rdy' := false) (pend' := none) S1 hg1 r1 q1 s1.nx .busy none rfl rfl
                refine ⟨_, run_beginRound hl1 q1.state, ?_⟩
                have hq1 : l1.pending = none := q1.pending
                have hbusy : w1.putObj b (.loop { l1 with state := .busy }) = w1.putObj b (.loop { l1 with state := .busy, pending := none }) := by
                  rw [show ({ l1 with state := .busy } : Loop) = { l1 with state := .busy, pending := none } by cases l1; simp at hq1; subst hq1; rfl]
                rw [hbusy]
                have st12 := st1.trans st2 le1 (Nat.le_refl _)
                refine cs2.spec ρ1 _ a1 S2 (hF.snd st12 le1) (hG.mono st1.ext) rt1 (by rw [sz1]; show N2 ≤ ((l.params.toList.zip cargs.toList).foldl _ l.tmps).size; rw [t2]; exact hN2) d1 n (some b) (rnd.mono st1.ext) _ fun ρ2 a2 w2 S3 st3 rt2 sz2 d2 => ?_
                have hb2 := st3.ext _ _ hb1
                obtain ⟨m2, l2, r2, hl2, q2⟩ := loop_obj S3 hg2 hb2
                obtain ⟨S4, st4⟩ := loop_put (rdy' := rdy') (pend' := jump) S3 hg2 r2 q2 s2.nx (if (jump.map jmp).isNone then .ready else .done) (jump.map jmp) (by subst hrdy; cases jump <;> rfl) rfl
                refine hway b _ a2 w2 ⟨_, _, run_endRound _ hl2, _, ρ2, rfl, S4, (st12.trans st3 le1 le2).trans st4 (Nat.le_trans le1 le2) (Nat.le_refl _), ?_⟩
                subst hrdy
                cases jump <;> simp [Rel]
              split at h
              · simp at h
                obtain ⟨rfl, rfl, rfl⟩ := h
                exact common none _ true rfl rfl rfl rfl rfl fun b R a w h => h
              · simp at h
                obtain ⟨rfl, rfl, rfl⟩ := h
                exact common (some none) _ false rfl rfl rfl rfl rfl fun b R a w h => h
              · simp at h
                obtain ⟨rfl, rfl, rfl⟩ := h
                exact common (some (some _)) _ false rfl rfl rfl rfl rfl fun b R a w h => h
            · cases h
          · cases h
        · cases h
      · cases h
    · cases h
  · cases h
end
end Go.Abs
