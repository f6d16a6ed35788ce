/- The abstract interpreter, part L: append. -/
import Derived.Test.YteofddgoedkhcaaGreatDoorAbsK
namespace Go.Abs
section
variable {P : Program} {ρ : Env} {gs : List Nat} {e : AX → AV} {η : Operand → Value} {B : Base} {H : AHeap} {w : World}

theorem cop_app {o : Oper} {n b : Nat} {as ax : AX} (hc : cop P gs o = some (.app n b as ax)) :
    ∃ c s x t u el eu i z, o.op = .call c ∧ c.callee = .builtin .append ∧ c.args = #[s, x] ∧ c.argTypes = #[t, u] ∧ P.underlying t = some (.slice el) ∧ P.underlying u = some (.slice eu) ∧
      P.info? el = some i ∧ i.size = n ∧ i.bytes = b ∧ i.zero = some z ∧ z.cells.size = n ∧ 0 < n ∧ cox gs s = some as ∧ cox gs x = some ax := by
  have ht := cop_tag hc
  cases ho : o.op <;> rw [ho] at ht <;> simp [Op.tags, AOp.tag] at ht
  rename_i c
  simp only [cop, ho] at hc
  unfold ccall at hc
  split at hc
  · obtain ⟨_, _, _, _, hq⟩ := m2_some hc
    cases hq
  · split at hc
    · simp only [Option.map_eq_some_iff] at hc
      obtain ⟨_, _, hq⟩ := hc
      cases hq
    · simp only [Option.map_eq_some_iff] at hc
      obtain ⟨_, _, hq⟩ := hc
      cases hq
    · cases hc
  · split at hc
    · simp only [Option.map_eq_some_iff] at hc
      obtain ⟨_, _, hq⟩ := hc
      cases hq
    · cases hc
  · rename_i s x t u hcal hargs hts
    split at hc
    · rename_i el eu hu1 hu2
      split at hc
      · rename_i n' b' z' hn hb hz
        split at hc
        · rename_i hz0
          obtain ⟨p, q, h1, h2, hq⟩ := m2_some hc
          cases hq
          unfold szOf at hn
          simp only [Option.map_eq_some_iff] at hn hb
          obtain ⟨i, hi, rfl⟩ := hn
          obtain ⟨i', hi', rfl⟩ := hb
          rw [hi] at hi'; cases hi'
          unfold zeroOf at hz
          simp only [Option.bind_eq_some_iff] at hz
          obtain ⟨i2, hi2, z, hzz, hzl⟩ := hz
          rw [hi] at hi2; cases hi2
          have hl := ofVals_length _ _ hzl
          refine ⟨c, s, x, t, u, el, eu, i, z, rfl, hcal, Array.toList_inj.1 (by simpa using hargs), Array.toList_inj.1 (by simpa using hts), hu1, hu2, hi, rfl, rfl, hzz, ?_, hz0.2, h1, h2⟩
          simp at hl; omega
        · cases hc
      · cases hc
    · cases hc
  · cases hc

/-- What is appended. -/
theorem src_sound {n m : Nat} {x : AV} {vx : Value} {news : List AV} (hS : Sim B ρ H w) (h : srcA n H x = some (m, news)) (rx : Rel ρ x vx) :
    ∃ cs : List Value, RelL ρ news cs ∧ cs.length = m * n ∧ ∀ w', (∀ a, w'.cell? a = w.cell? a) → (Builtin.lenOf vx).run P w' = .ok m w' ∧ (Builtin.firstCells n m vx).run P w' = .ok cs.toArray w' := by
  unfold srcA at h
  split at h
  · simp at h
    obtain ⟨rfl, rfl⟩ := h
    simp only [Rel] at rx; subst rx
    exact ⟨[], RelL.nil, by simp, fun w' _ => ⟨by simp [Builtin.lenOf], by simp [Builtin.firstCells]⟩⟩
  · rename_i id off len ex cap es
    split at h
    · rename_i hes
      split at h
      · rename_i ro l hg
        split at h
        · rename_i r hr
          simp at h
          obtain ⟨rfl, rfl⟩ := h
          simp only [Rel] at rx
          obtain ⟨b, o', k, c, r1, r2, r3, r4, rfl⟩ := rx
          obtain ⟨cs, c1, c2, c3⟩ := hS.load hg r1 hr
          refine ⟨cs, c2, c1, fun w' hw => ⟨by simp [Builtin.lenOf], ?_⟩⟩
          exact run_firstCells_some (P := P) w' n _ _ _ _ cs c1 (fun j v hv => by rw [hw]; exact c3 j v hv)
        · cases h
      · cases h
    · cases h
  · cases h

theorem relL_one {xs : List AV} {cs : List Value} (h : RelL ρ xs cs) (h1 : allOne xs = true) : ∀ c ∈ cs, c.oneCell' = true := by
  intro c hc
  obtain ⟨i, hi, rfl⟩ := List.mem_iff_getElem.1 hc
  have hix : i < xs.length := by have := h.length; omega
  obtain ⟨v, hv, hr⟩ := h.get (i := i) (a := xs[i]) (by simp [hix])
  rw [List.getElem?_eq_getElem hi] at hv; cases hv
  exact hr.one (allOne_spec h1 _ (List.getElem_mem hix))

section run
variable {t u el eu ty : TypeId} {i : TypeInfo} {z : Value} {n m : Nat} {vx : Value} {news : List Value}

theorem run_app_room (ht : P.underlying t = some (.slice el)) (hu : P.underlying u = some (.slice eu)) (hi : P.info? el = some i) (hn : i.size = n)
    (hsrc : ∀ w', (∀ a, w'.cell? a = w.cell? a) → (Builtin.lenOf vx).run P w' = .ok m w' ∧ (Builtin.firstCells n m vx).run P w' = .ok news.toArray w')
    (a : Addr) (len cap : Nat) (hroom : len + m ≤ cap) {w' : World} (hst : (storeCells (a.add (len * n)) news).run P w = .ok () w') :
    (Builtin.append_ #[t, u] ty #[.slice (some a) len cap, vx]).run P w = .ok (.slice (some a) (len + m) cap) w' := by
  obtain ⟨h1, h2⟩ := hsrc w (fun _ => rfl)
  simp [Builtin.append_, run_underlying ht, run_underlying hu, sizeOf, typeInfo, hi, hn, h1, hroom, h2, hst]

theorem run_app_grow (ht : P.underlying t = some (.slice el)) (hu : P.underlying u = some (.slice eu)) (hi : P.info? el = some i) (hn : i.size = n) (hz : i.zero = some z)
    (hsrc : ∀ w', (∀ a, w'.cell? a = w.cell? a) → (Builtin.lenOf vx).run P w' = .ok m w' ∧ (Builtin.firstCells n m vx).run P w' = .ok news.toArray w')
    (base : Option Addr) (len cap : Nat) (olds : List Value) (hold : ∀ w', (∀ a, w'.cell? a = w.cell? a) → (Builtin.firstCells n len (.slice base len cap)).run P w' = .ok olds.toArray w')
    (hroom : ¬ len + m ≤ cap) (h63 : len + m ≤ 4611686018427387904) (h47 : (len + m) * i.bytes ≤ 140737488355328) :
    (Builtin.append_ #[t, u] ty #[.slice base len cap, vx]).run P w =
      .ok (.slice (some ⟨w.heap.size, 0, none⟩) (len + m) (grownCap w (len + m) cap el)) (w.drew.alloc (.cells (olds ++ news ++ (Builtin.zeroCells z.cells (grownCap w (len + m) cap el - (len + m))).toList).toArray el)) := by
  obtain ⟨h1, _⟩ := hsrc w (fun _ => rfl)
  obtain ⟨_, h2⟩ := hsrc w.drew (fun _ => rfl)
  have h3 := hold w.drew (fun _ => rfl)
  have hfit := growslice_fits (old := cap) (need := len + m) (bytes := i.bytes) (by omega) h47
  have h63' : ¬ (9223372036854775807 < ((len : Int) + (m : Int))) := by omega
  have h48' : ¬ (281474976710656 < Builtin.nextslicecap (len + m) cap * i.bytes) := by omega
  simp [Builtin.append_, run_underlying ht, run_underlying hu, sizeOf, typeInfo, hi, hn, h1, hroom, h63', h48', Question.forced, h2, h3, zeroValue, hz, newRow, grownCap]
  congr 2
  apply Array.ext'
  simp
end run

theorem exec_app {o : Oper} {c : Call} {s x : Operand} {t u : TypeId} (ho : o.op = .call c) (hcal : c.callee = .builtin .append) (hargs : c.args = #[s, x]) (hts : c.argTypes = #[t, u]) {v' : Value} {w' : World}
    (h : (Builtin.append_ #[t, u] o.type #[η s, η x]).run P w = .ok v' w') : (execOp η o).run P w = .ok (.value v') w' := by
  simp [execOp, ho, resolve, hcal, hargs, hts, invoke, builtin, h]

theorem ap_sound {o : Oper} {n b : Nat} {as ax : AX} {v : AV} {H' : AHeap} {nx nx' : Pos} (hS : Sim B ρ H w) (hE : Evs gs ρ e η) (hc : cop P gs o = some (.app n b as ax)) (hp : apA H nx n b (e as) (e ax) = some (v, H', nx')) :
    nx.toNat ≤ nx'.toNat ∧ (Fresh ρ nx nx' → ∃ v' w' ρ', (execOp η o).run P w = .ok (.value v') w' ∧ Sim B ρ' H' w' ∧ Step ρ H nx w ρ' H' nx' w' ∧ Rel ρ' v v') := by
  obtain ⟨c, s, x, t, u, el, eu, i, z, ho, hcal, hargs, hts, hu1, hu2, hi, hn, hb, hz, hzs, hpos, h1, h2⟩ := cop_app hc
  have rs := hE _ _ h1
  have rx := hE _ _ h2
  have run := @exec_app P η w o c s x t u ho hcal hargs hts
  have grow : ∀ {news : List AV} {m len cap : Nat} {base : Option Addr} {olds : List AV} {ocs ncs : List Value} (H2 : AHeap) (hS2 : Sim B ρ H2 w) (hst : Step ρ H nx w ρ H2 nx w), η s = .slice base len cap → RelL ρ olds ocs → RelL ρ news ncs →
      ocs.length = len * n → ncs.length = m * n →
      (∀ w', (∀ a, w'.cell? a = w.cell? a) → (Builtin.lenOf (η x)).run P w' = .ok m w' ∧ (Builtin.firstCells n m (η x)).run P w' = .ok ncs.toArray w') →
      (∀ w', (∀ a, w'.cell? a = w.cell? a) → (Builtin.firstCells n len (.slice base len cap)).run P w' = .ok ocs.toArray w') →
      ¬ len + m ≤ cap → len + m ≤ 4611686018427387904 → (len + m) * b ≤ 140737488355328 → ρ nx = none →
      ∃ v' w' ρ', (execOp η o).run P w = .ok (.value v') w' ∧ Sim B ρ' (PT.put nx (some (.cells false (olds ++ news))) H2) w' ∧ Step ρ H nx w ρ' (PT.put nx (some (.cells false (olds ++ news))) H2) nx.succ w' ∧
        Rel ρ' (.sl nx 0 (len + m) false (len + m) n) v' := by
    intro news m len cap base olds ocs ncs H2 hS2 hst hs ro rn lo ln hsrc hold hroom h63 h47 hfn
    have hcap := grownCap_ge w (len + m) cap el
    have hr := run_app_grow (ty := o.type) hu1 hu2 hi hn hz hsrc base len cap ocs hold hroom h63 (by rw [hb]; exact h47)
    refine ⟨_, _, _, run (by rw [hs]; exact hr), hS2.drew.alloc hfn (ro.append rn) el _, ?_, ?_⟩
    · have := (Step.alloc (w := w.drew) (H := H2) hfn (.cells false (olds ++ news)) (.cells (ocs ++ ncs ++ (Builtin.zeroCells z.cells (grownCap w (len + m) cap el - (len + m))).toList).toArray el) (0, (ocs ++ ncs ++ (Builtin.zeroCells z.cells (grownCap w (len + m) cap el - (len + m))).toList).length)).of_drew
      exact hst.trans this (Nat.le_refl _) (by rw [Pos.toNat_succ]; omega)
    · simp only [Rel]
      refine ⟨_, _, _, grownCap w (len + m) cap el, Env.set_same _ _ _, hcap, by simp, ?_, by simp⟩
      have hzl := size_zeroCells z.cells (grownCap w (len + m) cap el - (len + m))
      rw [hzs] at hzl
      simp only [List.length_append, Array.length_toList, hzl, lo, ln]
      rw [← Nat.add_mul, ← Nat.add_mul, Nat.zero_add]
      refine Nat.mul_le_mul_right _ ?_
      omega
  unfold apA at hp
  split at hp
  · rename_i m news hsrcA
    split at hp
    · rename_i hone
      obtain ⟨ncs, rn, ln, hsrc⟩ := src_sound (P := P) hS hsrcA rx
      split at hp
      · -- nilsl
        rename_i hes
        rw [hes] at rs
        simp only [Rel] at rs
        split at hp
        · rename_i hm0
          subst hm0
          simp at hp
          obtain ⟨rfl, rfl, rfl⟩ := hp
          refine ⟨Nat.le_refl _, fun _ => ⟨.slice none 0 0, w, ρ, run ?_, hS, Step.refl _ _ _ _, by simp [Rel]⟩⟩
          obtain ⟨q1, q2⟩ := hsrc w (fun _ => rfl)
          rw [rs]
          simp [Builtin.append_, run_underlying hu1, run_underlying hu2, sizeOf, typeInfo, hi, q1, hn, q2]
        · rename_i hm0
          split at hp
          · rename_i hbd
            rw [frcN_eq] at hp
            simp at hp
            obtain ⟨rfl, rfl, rfl⟩ := hp
            refine ⟨by rw [Pos.toNat_succ]; omega, fun hf => ?_⟩
            have hfn : ρ nx = none := hf nx (Nat.le_refl _) (by rw [Pos.toNat_succ]; omega)
            obtain ⟨v', w', ρ', g1, g2, g3, g4⟩ := grow (olds := []) (ocs := []) (len := 0) (cap := 0) (base := none) H hS (Step.refl _ _ _ _) rs RelL.nil rn (by simp) ln hsrc
              (fun w' _ => by simp [Builtin.firstCells]) (by omega) (by omega) (by rw [Nat.zero_add]; exact hbd.1) hfn
            refine ⟨v', w', ρ', g1, g2, g3, ?_⟩
            rw [Nat.zero_add] at g4; exact g4
          · cases hp
      · -- sl
        rename_i id off len ex cap es hes
        rw [hes] at rs
        split at hp
        · rename_i hle
          obtain ⟨rfl, hlc⟩ := hle
          have rs0 := rs
          simp only [Rel] at rs
          obtain ⟨b', o', k, c', r1, r2, r3, r4, r5⟩ := rs
          split at hp
          · rename_i hm0
            subst hm0
            simp at hp
            obtain ⟨rfl, rfl, rfl⟩ := hp
            have hncs : ncs = [] := List.length_eq_zero_iff.1 (by simpa using ln)
            subst hncs
            refine ⟨Nat.le_refl _, fun _ => ⟨η s, w, ρ, run ?_, hS, Step.refl _ _ _ _, rs0⟩⟩
            have := run_app_room (ty := o.type) hu1 hu2 hi hn hsrc ⟨b', o' + off, none⟩ len c' (by omega) (w' := w) (by simp [storeCells])
            rw [r5]; exact this
          · rename_i hm0
            split at hp
            · rename_i hroom
              split at hp
              · rename_i l hg
                split at hp
                · rename_i l' hl'
                  rw [frcN_eq] at hp
                  simp at hp
                  obtain ⟨rfl, rfl, rfl⟩ := hp
                  obtain ⟨s1, s2, s3⟩ := hS.store hg r1 hl' rn (allOne_spec hone) (P := P) nx
                  refine ⟨Nat.le_refl _, fun _ => ⟨.slice (some ⟨b', o' + off, none⟩) (len + m) c', _, ρ, run ?_, s2, s3, ?_⟩⟩
                  · rw [r5]
                    exact run_app_room (ty := o.type) hu1 hu2 hi hn hsrc ⟨b', o' + off, none⟩ len c' (by omega) (by rw [addr_add, Nat.add_assoc]; exact s1)
                  · simp only [Rel]
                    exact ⟨b', o', k, c', r1, r2, r3, r4, rfl⟩
                · cases hp
              · cases hp
            · rename_i hroom
              split at hp
              · rename_i hbd
                split at hp
                · rename_i ro l hg
                  split at hp
                  · rename_i olds hold
                    obtain ⟨ocs, lo, rol, hcells⟩ := hS.load hg r1 hold
                    have holdrun : ∀ w', (∀ a, w'.cell? a = w.cell? a) → (Builtin.firstCells es len (.slice (some ⟨b', o' + off, none⟩) len c')).run P w' = .ok ocs.toArray w' := fun w' hw =>
                      run_firstCells_some (P := P) w' es len _ _ _ ocs lo (fun j v hv => by rw [hw]; exact hcells j v hv)
                    split at hp
                    · -- exact
                      rw [frcN_eq] at hp
                      simp at hp
                      obtain ⟨rfl, rfl, rfl⟩ := hp
                      refine ⟨by rw [Pos.toNat_succ]; omega, fun hf => ?_⟩
                      have hfn : ρ nx = none := hf nx (Nat.le_refl _) (by rw [Pos.toNat_succ]; omega)
                      have hcc := r3 rfl
                      exact grow H hS (Step.refl _ _ _ _) r5 rol rn lo ln hsrc holdrun (by omega) hbd.2 hbd.1 hfn
                    · split at hp
                      · -- the capacity is not known
                        rw [frcN_eq] at hp
                        simp at hp
                        obtain ⟨rfl, rfl, rfl⟩ := hp
                        refine ⟨by rw [Pos.toNat_succ]; omega, fun hf => ?_⟩
                        have hfn : ρ nx = none := hf nx (Nat.le_refl _) (by rw [Pos.toNat_succ]; omega)
                        by_cases hcc : len + m ≤ c'
                        · -- in place
                          obtain ⟨t1, t2⟩ := takeN_spec hold
                          obtain ⟨_, _, _, q1, q2, q3, q4, q5, q6⟩ := hS.cells _ _ _ hg
                          rw [r1] at q1; cases q1
                          have hlen1 : off + len * es + ncs.length ≤ k := by
                            have : (len + m) * es ≤ c' * es := Nat.mul_le_mul_right _ hcc
                            rw [Nat.add_mul] at this
                            rw [ln]; omega
                          have hsome : ∀ j, j < ncs.length → (w.cell? ⟨b', o' + (off + len * es) + j, none⟩).isSome = true := fun j hj => by
                            rw [show o' + (off + len * es) + j = o' + (off + len * es + j) by omega]; exact (q6 rfl _ (by omega)).1
                          have hmv := hS.move (nx := nx) (q := off) (l2 := olds ++ news) (p := off + len * es) (cs := ncs) hg r1 hfn hlen1 (by omega) (relL_one rn hone)
                            (by have := rn.length; have := rol.length; rw [List.length_append]; omega) (by
                              intro j v hv
                              have hol := rol.length
                              rw [setRow_cell b' ncs _ w _ hsome]
                              by_cases hj : j < olds.length
                              · rw [List.getElem?_append_left hj] at hv
                                rw [if_neg (by omega)]
                                obtain ⟨cv, hcv, hr⟩ := rol.get hv
                                refine ⟨cv, ?_, hr⟩
                                have := hcells j cv hcv
                                rw [addr_add] at this; exact this
                              · rw [List.getElem?_append_right (by omega)] at hv
                                have hnl := rn.length
                                have hjl : j - olds.length < news.length := by
                                  rcases Nat.lt_or_ge (j - olds.length) news.length with q | q
                                  · exact q
                                  · rw [List.getElem?_eq_none q] at hv; cases hv
                                rw [if_pos (by omega)]
                                obtain ⟨cv, hcv, hr⟩ := rn.get hv
                                refine ⟨cv, ?_, hr⟩
                                rw [← hcv]; congr 1; omega) (P := P)
                          obtain ⟨s1, s2, s3⟩ := hmv
                          refine ⟨.slice (some ⟨b', o' + off, none⟩) (len + m) c', _, _, run ?_, s2, s3, ?_⟩
                          · rw [r5]
                            exact run_app_room (ty := o.type) hu1 hu2 hi hn hsrc ⟨b', o' + off, none⟩ len c' hcc (by rw [addr_add, Nat.add_assoc]; exact s1)
                          · simp only [Rel]
                            exact ⟨b', o' + off, k - off, c', Env.set_same _ _ _, by omega, by simp, by omega, by simp⟩
                        · -- it grows
                          have hst : Step ρ H nx w ρ (PT.put id none H) nx w :=
                            ⟨Env.le_refl _, fun _ q1 q2 => absurd q1 q2, Nat.le_refl _, rfl, rfl, rfl, fun _ _ _ => rfl, fun _ ho _ => ho.of_drop, fun j k hj => by
                              by_cases hji : j = id
                              · subst hji; rw [PT.get_put_same] at hj; cases hj
                              · rw [PT.get_put_other _ _ _ _ hji] at hj; exact .inl ⟨_, hj⟩⟩
                          exact grow (PT.put id none H) (hS.drop id) hst r5 rol rn lo ln hsrc holdrun hcc hbd.2 hbd.1 hfn
                      · cases hp
                  · cases hp
                · cases hp
              · cases hp
        · cases hp
      · cases hp
    · cases hp
  · cases hp
end
end Go.Abs
