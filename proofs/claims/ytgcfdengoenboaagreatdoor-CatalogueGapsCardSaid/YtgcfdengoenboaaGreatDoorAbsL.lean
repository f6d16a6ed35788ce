/- The abstract interpreter, part L: append. -/
import Derived.Test.YtgcfdengoenboaaGreatDoorAbsI
import Derived.RangeFuncRecord
import Derived.MapKept
import Derived.Laws.RangeString
import Derived.Laws.MakeOwn
namespace Go.Abs
section
variable {P : Program} {ρ : Env} {gs : List Nat} {e : AX → AV} {η : Operand → Value} {B : Base} {H : AHeap} {w : World}

theorem cop_app {o : Oper} {n b : Nat} {as ax : AX} (hc : cop P gs o = some (.app n b as ax)) :
    ∃ c s x t u el eu i z, o.op = .call c ∧ c.callee = .builtin .append ∧ c.args = #[s, x] ∧ c.argTypes = #[t, u] ∧ P.underlying t = some (.slice el) ∧ P.underlying u = some (.slice eu) ∧
      P.info? el = some i ∧ i.size = n ∧ i.bytes = b ∧ i.zero = some z ∧ z.cells.size = n ∧ 0 < n ∧ cox gs s = some as ∧ cox gs x = some ax := by
  have ht := cop_tag hc
  cases ho : o.op <;> rw [ho] at ht <;> simp [Op.tags, AOp.tag] at ht
  rename_i c
  simp only [cop, ho] at hc
  unfold ccall at hc
  split at hc
  · obtain ⟨_, _, _, _, hq⟩ := m2_some hc
    cases hq
  · split at hc
    · simp only [Option.map_eq_some_iff] at hc
      obtain ⟨_, _, hq⟩ := hc
      cases hq
    · simp only [Option.map_eq_some_iff] at hc
      obtain ⟨_, _, hq⟩ := hc
      cases hq
    · cases hc
  · split at hc
    · simp only [Option.map_eq_some_iff] at hc
      obtain ⟨_, _, hq⟩ := hc
      cases hq
    · cases hc
  · rename_i s x t u hcal hargs hts
    split at hc
    · rename_i el eu hu1 hu2
      split at hc
      · rename_i n' b' z' hn hb hz
        split at hc
        · rename_i hz0
          obtain ⟨p, q, h1, h2, hq⟩ := m2_some hc
          cases hq
          unfold szOf at hn
          simp only [Option.map_eq_some_iff] at hn hb
          obtain ⟨i, hi, rfl⟩ := hn
          obtain ⟨i', hi', rfl⟩ := hb
          rw [hi] at hi'; cases hi'
          unfold zeroOf at hz
          simp only [Option.bind_eq_some_iff] at hz
          obtain ⟨i2, hi2, z, hzz, hzl⟩ := hz
          rw [hi] at hi2; cases hi2
          have hl := ofVals_length _ _ hzl
          refine ⟨c, s, x, t, u, el, eu, i, z, rfl, hcal, Array.toList_inj.1 (by simpa using hargs), Array.toList_inj.1 (by simpa using hts), hu1, hu2, hi, rfl, rfl, hzz, ?_, hz0.2, h1, h2⟩
          simp at hl; omega
        · cases hc
      · cases hc
    · cases hc
  · cases hc

/-- What is appended. -/
theorem src_sound {n m : Nat} {x : AV} {vx : Value} {news : List AV} (hS : Sim B ρ H w) (h : srcA n H x = some (m, news)) (rx : Rel ρ x vx) :
    ∃ cs : List Value, RelL ρ news cs ∧ cs.length = m * n ∧ ∀ w', (∀ a, w'.cell? a = w.cell? a) → (Builtin.lenOf vx).run P w' = .ok m w' ∧ (Builtin.firstCells n m vx).run P w' = .ok cs.toArray w' := by
  unfold srcA at h
  split at h
  · simp at h
    obtain ⟨rfl, rfl⟩ := h
    simp only [Rel] at rx; subst rx
    exact ⟨[], RelL.nil, by simp, fun w' _ => ⟨by simp [Builtin.lenOf], by simp [Builtin.firstCells]⟩⟩
  · rename_i id off len ex cap es
    split at h
    · rename_i hes
      split at h
      · rename_i ro l hg
        split at h
        · rename_i r hr
          simp at h
          obtain ⟨rfl, rfl⟩ := h
          simp only [Rel] at rx
          obtain ⟨b, o', k, c, r1, r2, r3, r4, rfl⟩ := rx
          obtain ⟨cs, c1, c2, c3⟩ := hS.load hg r1 hr
          refine ⟨cs, c2, c1, fun w' hw => ⟨by simp [Builtin.lenOf], ?_⟩⟩
          exact run_firstCells_some (P := P) w' n _ _ _ _ cs c1 (fun j v hv => by rw [hw]; exact c3 j v hv)
        · cases h
      · cases h
    · cases h
  · cases h

theorem relL_one {xs : List AV} {cs : List Value} (h : RelL ρ xs cs) (h1 : allOne xs = true) : ∀ c ∈ cs, c.oneCell' = true := by
  intro c hc
  obtain ⟨i, hi, rfl⟩ := List.mem_iff_getElem.1 hc
  have hix : i < xs.length := by have := h.length; omega
  obtain ⟨v, hv, hr⟩ := h.get (i := i) (a := xs[i]) (by simp [hix])
  rw [List.getElem?_eq_getElem hi] at hv; cases hv
  exact hr.one (allOne_spec h1 _ (List.getElem_mem hix))

section run
variable {t u el eu ty : TypeId} {i : TypeInfo} {z : Value} {n m : Nat} {vx : Value} {news : List Value}

theorem run_app_room (ht : P.underlying t = some (.slice el)) (hu : P.underlying u = some (.slice eu)) (hi : P.info? el = some i) (hn : i.size = n)
    (hsrc : ∀ w', (∀ a, w'.cell? a = w.cell? a) → (Builtin.lenOf vx).run P w' = .ok m w' ∧ (Builtin.firstCells n m vx).run P w' = .ok news.toArray w')
    (a : Addr) (len cap : Nat) (hroom : len + m ≤ cap) {w' : World} (hst : (storeCells (a.add (len * n)) news).run P w = .ok () w') :
    (Builtin.append_ #[t, u] ty #[.slice (some a) len cap, vx]).run P w = .ok (.slice (some a) (len + m) cap) w' := by
  obtain ⟨h1, h2⟩ := hsrc w (fun _ => rfl)
  simp [Builtin.append_, run_underlying ht, run_underlying hu, sizeOf, typeInfo, hi, hn, h1, hroom, h2, hst]

theorem run_app_grow (ht : P.underlying t = some (.slice el)) (hu : P.underlying u = some (.slice eu)) (hi : P.info? el = some i) (hn : i.size = n) (hz : i.zero = some z)
    (hsrc : ∀ w', (∀ a, w'.cell? a = w.cell? a) → (Builtin.lenOf vx).run P w' = .ok m w' ∧ (Builtin.firstCells n m vx).run P w' = .ok news.toArray w')
    (base : Option Addr) (len cap : Nat) (olds : List Value) (hold : ∀ w', (∀ a, w'.cell? a = w.cell? a) → (Builtin.firstCells n len (.slice base len cap)).run P w' = .ok olds.toArray w')
    (hroom : ¬ len + m ≤ cap) (h63 : len + m ≤ 4611686018427387904) (h47 : (len + m) * i.bytes ≤ 140737488355328) :
    (Builtin.append_ #[t, u] ty #[.slice base len cap, vx]).run P w =
      .ok (.slice (some ⟨w.heap.size, 0, none⟩) (len + m) (grownCap w (len + m) cap el)) (w.drew.alloc (.cells (olds ++ news ++ (Builtin.zeroCells z.cells (grownCap w (len + m) cap el - (len + m))).toList).toArray el)) := by
  obtain ⟨h1, _⟩ := hsrc w (fun _ => rfl)
  obtain ⟨_, h2⟩ := hsrc w.drew (fun _ => rfl)
  have h3 := hold w.drew (fun _ => rfl)
  have hfit := growslice_fits (old := cap) (need := len + m) (bytes := i.bytes) (by omega) h47
  have h63' : ¬ (9223372036854775807 < ((len : Int) + (m : Int))) := by omega
  have h48' : ¬ (281474976710656 < Builtin.nextslicecap (len + m) cap * i.bytes) := by omega
  simp [Builtin.append_, run_underlying ht, run_underlying hu, sizeOf, typeInfo, hi, hn, h1, hroom, h63', h48', Question.forced, h2, h3, zeroValue, hz, newRow, grownCap]
  congr 2
  apply Array.ext'
  simp
end run

theorem exec_app {o : Oper} {c : Call} {s x : Operand} {t u : TypeId} (ho : o.op = .call c) (hcal : c.callee = .builtin .append) (hargs : c.args = #[s, x]) (hts : c.argTypes = #[t, u]) {v' : Value} {w' : World}
    (h : (Builtin.append_ #[t, u] o.type #[η s, η x]).run P w = .ok v' w') : (execOp η o).run P w = .ok (.value v') w' := by
  simp [execOp, ho, resolve, hcal, hargs, hts, invoke, builtin, h]

theorem ap_sound {o : Oper} {n b : Nat} {as ax : AX} {v : AV} {H' : AHeap} {nx nx' : Pos} (hS : Sim B ρ H w) (hE : Evs gs ρ e η) (hc : cop P gs o = some (.app n b as ax)) (hp : apA H nx n b (e as) (e ax) = some (v, H', nx')) :
    nx.toNat ≤ nx'.toNat ∧ (Fresh ρ nx nx' → ∃ v' w' ρ', (execOp η o).run P w = .ok (.value v') w' ∧ Sim B ρ' H' w' ∧ Step ρ H nx w ρ' H' nx' w' ∧ Rel ρ' v v') := by
  obtain ⟨c, s, x, t, u, el, eu, i, z, ho, hcal, hargs, hts, hu1, hu2, hi, hn, hb, hz, hzs, hpos, h1, h2⟩ := cop_app hc
  have rs := hE _ _ h1
  have rx := hE _ _ h2
  have run := @exec_app P η w o c s x t u ho hcal hargs hts
  have grow : ∀ {news : List AV} {m len cap : Nat} {base : Option Addr} {olds : List AV} {ocs ncs : List Value} (H2 : AHeap) (hS2 : Sim B ρ H2 w) (hst : Step ρ H nx w ρ H2 nx w), η s = .slice base len cap → RelL ρ olds ocs → RelL ρ news ncs →
      ocs.length = len * n → ncs.length = m * n →
      (∀ w', (∀ a, w'.cell? a = w.cell? a) → (Builtin.lenOf (η x)).run P w' = .ok m w' ∧ (Builtin.firstCells n m (η x)).run P w' = .ok ncs.toArray w') →
      (∀ w', (∀ a, w'.cell? a = w.cell? a) → (Builtin.firstCells n len (.slice base len cap)).run P w' = .ok ocs.toArray w') →
      ¬ len + m ≤ cap → len + m ≤ 4611686018427387904 → (len + m) * b ≤ 140737488355328 → ρ nx = none →
      ∃ v' w' ρ', (execOp η o).run P w = .ok (.value v') w' ∧ Sim B ρ' (PT.put nx (some (.cells false (olds ++ news))) H2) w' ∧ Step ρ H nx w ρ' (PT.put nx (some (.cells false (olds ++ news))) H2) nx.succ w' ∧
        Rel ρ' (.sl nx 0 (len + m) false (len + m) n) v' := by
    intro news m len cap base olds ocs ncs H2 hS2 hst hs ro rn lo ln hsrc hold hroom h63 h47 hfn
    have hcap := grownCap_ge w (len + m) cap el
    have hr := run_app_grow (ty := o.type) hu1 hu2 hi hn hz hsrc base len cap ocs hold hroom h63 (by rw [hb]; exact h47)
    refine ⟨_, _, _, run (by rw [hs]; exact hr), hS2.drew.alloc hfn (ro.append rn) el _, ?_, ?_⟩
    · have := (Step.alloc (w := w.drew) (H := H2) hfn (.cells false (olds ++ news)) (.cells (ocs ++ ncs ++ (Builtin.zeroCells z.cells (grownCap w (len + m) cap el - (len + m))).toList).toArray el) (0, (ocs ++ ncs ++ (Builtin.zeroCells z.cells (grownCap w (len + m) cap el - (len + m))).toList).length)).of_drew
      exact hst.trans this (Nat.le_refl _) (by rw [Pos.toNat_succ]; omega)
    · simp only [Rel]
      refine ⟨_, _, _, grownCap w (len + m) cap el, Env.set_same _ _ _, hcap, by simp, ?_, by simp⟩
      have hzl := size_zeroCells z.cells (grownCap w (len + m) cap el - (len + m))
      rw [hzs] at hzl
      simp only [List.length_append, Array.length_toList, hzl, lo, ln]
      rw [← Nat.add_mul, ← Nat.add_mul, Nat.zero_add]
      refine Nat.mul_le_mul_right _ ?_
      omega
  unfold apA at hp
  split at hp
  · rename_i m news hsrcA
    split at hp
    · rename_i hone
      obtain ⟨ncs, rn, ln, hsrc⟩ := src_sound (P := P) hS hsrcA rx
      split at hp
      · -- nilsl
        rename_i hes
        rw [hes] at rs
        simp only [Rel] at rs
        split at hp
        · rename_i hm0
          subst hm0
          simp at hp
          obtain ⟨rfl, rfl, rfl⟩ := hp
          refine ⟨Nat.le_refl _, fun _ => ⟨.slice none 0 0, w, ρ, run ?_, hS, Step.refl _ _ _ _, by simp [Rel]⟩⟩
          obtain ⟨q1, q2⟩ := hsrc w (fun _ => rfl)
          rw [rs]
          simp [Builtin.append_, run_underlying hu1, run_underlying hu2, sizeOf, typeInfo, hi, q1, hn, q2]
        · rename_i hm0
          split at hp
          · rename_i hbd
            rw [frcN_eq] at hp
            simp at hp
            obtain ⟨rfl, rfl, rfl⟩ := hp
            refine ⟨by rw [Pos.toNat_succ]; omega, fun hf => ?_⟩
            have hfn : ρ nx = none := hf nx (Nat.le_refl _) (by rw [Pos.toNat_succ]; omega)
            obtain ⟨v', w', ρ', g1, g2, g3, g4⟩ := grow (olds := []) (ocs := []) (len := 0) (cap := 0) (base := none) H hS (Step.refl _ _ _ _) rs RelL.nil rn (by simp) ln hsrc
              (fun w' _ => by simp [Builtin.firstCells]) (by omega) (by omega) (by rw [Nat.zero_add]; exact hbd.1) hfn
            refine ⟨v', w', ρ', g1, g2, g3, ?_⟩
            rw [Nat.zero_add] at g4; exact g4
          · cases hp
      · -- sl
        rename_i id off len ex cap es hes
        rw [hes] at rs
        split at hp
        · rename_i hle
          obtain ⟨rfl, hlc⟩ := hle
          have rs0 := rs
          simp only [Rel] at rs
          obtain ⟨b', o', k, c', r1, r2, r3, r4, r5⟩ := rs
          split at hp
          · rename_i hm0
            subst hm0
            simp at hp
            obtain ⟨rfl, rfl, rfl⟩ := hp
            have hncs : ncs = [] := List.length_eq_zero_iff.1 (by simpa using ln)
            subst hncs
            refine ⟨Nat.le_refl _, fun _ => ⟨η s, w, ρ, run ?_, hS, Step.refl _ _ _ _, rs0⟩⟩
            have := run_app_room (ty := o.type) hu1 hu2 hi hn hsrc ⟨b', o' + off, none⟩ len c' (by omega) (w' := w) (by simp [storeCells])
            rw [r5]; exact this
          · rename_i hm0
            split at hp
            · rename_i hroom
              split at hp
              · rename_i l hg
                split at hp
                · rename_i l' hl'
                  rw [frcN_eq] at hp
                  simp at hp
                  obtain ⟨rfl, rfl, rfl⟩ := hp
                  obtain ⟨s1, s2, s3⟩ := hS.store hg r1 hl' rn (allOne_spec hone) (P := P) nx
                  refine ⟨Nat.le_refl _, fun _ => ⟨.slice (some ⟨b', o' + off, none⟩) (len + m) c', _, ρ, run ?_, s2, s3, ?_⟩⟩
                  · rw [r5]
                    exact run_app_room (ty := o.type) hu1 hu2 hi hn hsrc ⟨b', o' + off, none⟩ len c' (by omega) (by rw [addr_add, Nat.add_assoc]; exact s1)
                  · simp only [Rel]
                    exact ⟨b', o', k, c', r1, r2, r3, r4, rfl⟩
                · cases hp
              · cases hp
            · rename_i hroom
              split at hp
              · rename_i hbd
                split at hp
                · rename_i ro l hg
                  split at hp
                  · rename_i olds hold
                    obtain ⟨ocs, lo, rol, hcells⟩ := hS.load hg r1 hold
                    have holdrun : ∀ w', (∀ a, w'.cell? a = w.cell? a) → (Builtin.firstCells es len (.slice (some ⟨b', o' + off, none⟩) len c')).run P w' = .ok ocs.toArray w' := fun w' hw =>
                      run_firstCells_some (P := P) w' es len _ _ _ ocs lo (fun j v hv => by rw [hw]; exact hcells j v hv)
                    split at hp
                    · -- exact
                      rw [frcN_eq] at hp
                      simp at hp
                      obtain ⟨rfl, rfl, rfl⟩ := hp
                      refine ⟨by rw [Pos.toNat_succ]; omega, fun hf => ?_⟩
                      have hfn : ρ nx = none := hf nx (Nat.le_refl _) (by rw [Pos.toNat_succ]; omega)
                      have hcc := r3 rfl
                      exact grow H hS (Step.refl _ _ _ _) r5 rol rn lo ln hsrc holdrun (by omega) hbd.2 hbd.1 hfn
                    · split at hp
                      · -- the capacity is not known
                        rw [frcN_eq] at hp
                        simp at hp
                        obtain ⟨rfl, rfl, rfl⟩ := hp
                        refine ⟨by rw [Pos.toNat_succ]; omega, fun hf => ?_⟩
                        have hfn : ρ nx = none := hf nx (Nat.le_refl _) (by rw [Pos.toNat_succ]; omega)
                        by_cases hcc : len + m ≤ c'
                        · -- in place
                          obtain ⟨t1, t2⟩ := takeN_spec hold
                          obtain ⟨_, _, _, q1, q2, q3, q4, q5, q6⟩ := hS.cells _ _ _ hg
                          rw [r1] at q1; cases q1
                          have hlen1 : off + len * es + ncs.length ≤ k := by
                            have : (len + m) * es ≤ c' * es := Nat.mul_le_mul_right _ hcc
                            rw [Nat.add_mul] at this
                            rw [ln]; omega
                          have hsome : ∀ j, j < ncs.length → (w.cell? ⟨b', o' + (off + len * es) + j, none⟩).isSome = true := fun j hj => by
                            rw [show o' + (off + len * es) + j = o' + (off + len * es + j) by omega]; exact (q6 rfl _ (by omega)).1
                          have hmv := hS.move (nx := nx) (q := off) (l2 := olds ++ news) (p := off + len * es) (cs := ncs) hg r1 hfn hlen1 (by omega) (relL_one rn hone)
                            (by have := rn.length; have := rol.length; rw [List.length_append]; omega) (by
                              intro j v hv
                              have hol := rol.length
                              rw [setRow_cell b' ncs _ w _ hsome]
                              by_cases hj : j < olds.length
                              · rw [List.getElem?_append_left hj] at hv
                                rw [if_neg (by omega)]
                                obtain ⟨cv, hcv, hr⟩ := rol.get hv
                                refine ⟨cv, ?_, hr⟩
                                have := hcells j cv hcv
                                rw [addr_add] at this; exact this
                              · rw [List.getElem?_append_right (by omega)] at hv
                                have hnl := rn.length
                                have hjl : j - olds.length < news.length := by
                                  rcases Nat.lt_or_ge (j - olds.length) news.length with q | q
                                  · exact q
                                  · rw [List.getElem?_eq_none q] at hv; cases hv
                                rw [if_pos (by omega)]
                                obtain ⟨cv, hcv, hr⟩ := rn.get hv
                                refine ⟨cv, ?_, hr⟩
                                rw [← hcv]; congr 1; omega) (P := P)
                          obtain ⟨s1, s2, s3⟩ := hmv
                          refine ⟨.slice (some ⟨b', o' + off, none⟩) (len + m) c', _, _, run ?_, s2, s3, ?_⟩
                          · rw [r5]
                            exact run_app_room (ty := o.type) hu1 hu2 hi hn hsrc ⟨b', o' + off, none⟩ len c' hcc (by rw [addr_add, Nat.add_assoc]; exact s1)
                          · simp only [Rel]
                            exact ⟨b', o' + off, k - off, c', Env.set_same _ _ _, by omega, by simp, by omega, by simp⟩
                        · -- it grows
                          have hst : Step ρ H nx w ρ (PT.put id none H) nx w :=
                            ⟨Env.le_refl _, fun _ q1 q2 => absurd q1 q2, Nat.le_refl _, rfl, rfl, rfl, fun _ _ _ => rfl, fun _ ho _ => ho.of_drop, fun j k hj => by
                              by_cases hji : j = id
                              · subst hji; rw [PT.get_put_same] at hj; cases hj
                              · rw [PT.get_put_other _ _ _ _ hji] at hj; exact .inl ⟨_, hj⟩⟩
                          exact grow (PT.put id none H) (hS.drop id) hst r5 rol rn lo ln hsrc holdrun hcc hbd.2 hbd.1 hfn
                      · cases hp
                  · cases hp
                · cases hp
              · cases hp
        · cases hp
      · cases hp
    · cases hp
  · cases hp
end
end Go.Abs

namespace Go.Abs
section
variable {P : Program} {gs : List Nat} {B : Base} {ρ : Env} {H : AHeap} {w : World}

theorem putObj_other (w : World) (b : Nat) (o : Obj) {k : Nat} (h : k ≠ b) : (w.putObj b o).heap[k]? = w.heap[k]? := by
  simp only [World.putObj, Array.getElem?_setIfInBounds]
  rw [if_neg (Ne.symm h)]

theorem putObj_size (w : World) (b : Nat) (o : Obj) : (w.putObj b o).heap.size = w.heap.size := by simp [World.putObj]

theorem putObj_same (w : World) (b : Nat) (o : Obj) (h : b < w.heap.size) : (w.putObj b o).heap[b]? = some o := by
  simp [World.putObj, h]

/-- A block that is no cells is written, or forgotten. -/
theorem Sim.putObj (h : Sim B ρ H w) {id : Pos} {k0 : Blk} {k : Option Blk} {b m : Nat} {o : Obj} (hg : PT.get id H = some k0) (h0 : k0.isCells = false) (r : ρ id = some (b, 0, m))
    (hk : ∀ k', k = some k' → k'.isCells = false ∧ ObjOK B ρ k' o) (nx : Pos) : Sim B ρ (PT.put id k H) (w.putObj b o) ∧ Step ρ H nx w ρ (PT.put id k H) nx (w.putObj b o) := by
  obtain ⟨b', m', ob, e1, e2, e3, e4⟩ := h.objs id k0 hg h0
  rw [r] at e1; cases e1
  have hb : b < w.heap.size := h.blk_lt hg r
  have hown : Own ρ H b := ⟨id, k0, _, hg, (by cases k0 <;> first | rfl | cases h0), r⟩
  have other : ∀ {j : Pos} {x : Blk} {b2 : Nat} {o2 : Nat × Nat}, PT.get j H = some x → j ≠ id → ρ j = some (b2, o2) → b2 ≠ b := by
    intro j x b2 o2 hj hne hr hbb
    subst hbb
    exact h.inj j id _ _ _ _ _ hj hg hne hr r
  have hcell : ∀ {b2 : Nat}, b2 ≠ b → ∀ i, (w.putObj b o).cell? ⟨b2, i, none⟩ = w.cell? ⟨b2, i, none⟩ := fun hb i => by
    unfold World.cell?
    rw [putObj_other _ _ _ hb]
  have hfro : ∀ {b2 : Nat}, b2 ≠ b → ∀ i, (w.putObj b o).frozen? ⟨b2, i, none⟩ = w.frozen? ⟨b2, i, none⟩ := fun hb i => by
    unfold World.frozen?
    rw [putObj_other _ _ _ hb]
  refine ⟨⟨by rw [putObj_size]; exact h.base, fun j ro l e5 => ?_, fun j x e5 hx => ?_, fun i j x y b2 o2 p2 hi hj hne r1 r2 => ?_, fun b2 hb2 => by rw [putObj_other _ _ _ (fun q => by subst q; omega)]; exact h.low b2 hb2⟩, ?_⟩
  · by_cases hj : j = id
    · subst hj; rw [PT.get_put_same] at e5
      have := (hk _ e5).1
      cases this
    · rw [PT.get_put_other _ _ _ _ hj] at e5
      obtain ⟨b2, o2, m2, q1, q2, q3, q4, q5, q6⟩ := h.cells j ro l e5
      have hb2 := other e5 hj q1
      refine ⟨b2, o2, m2, q1, by rw [putObj_size]; exact q2, q3, fun i v hv => ?_, q5, fun hro i hi => ?_⟩
      · rw [hcell hb2]; exact q4 i v hv
      · rw [hcell hb2, hfro hb2]; exact q6 hro i hi
  · by_cases hj : j = id
    · subst hj; rw [PT.get_put_same] at e5
      exact ⟨b, m, o, r, e2, putObj_same _ _ _ hb, (hk _ e5).2⟩
    · rw [PT.get_put_other _ _ _ _ hj] at e5
      obtain ⟨b2, m2, ob2, q1, q2, q3, q4⟩ := h.objs j x e5 hx
      exact ⟨b2, m2, ob2, q1, q2, by rw [putObj_other _ _ _ (other e5 hj q1)]; exact q3, q4⟩
  · have f : ∀ (m : Pos) (z : Blk), PT.get m (PT.put id k H) = some z → ∃ z', PT.get m H = some z' := by
      intro m z hz
      by_cases hm : m = id
      · subst hm; exact ⟨_, hg⟩
      · rw [PT.get_put_other _ _ _ _ hm] at hz; exact ⟨_, hz⟩
    obtain ⟨x', hx'⟩ := f i x hi
    obtain ⟨y', hy'⟩ := f j y hj
    exact h.inj i j x' y' b2 o2 p2 hx' hy' hne r1 r2
  · refine ⟨Env.le_refl _, fun _ q1 q2 => absurd q1 q2, by rw [putObj_size]; exact Nat.le_refl _, rfl, rfl, rfl, fun j hj ho => ?_, fun j ho hj => ?_, fun j z hz => ?_⟩
    · exact putObj_other _ _ _ (fun q => by subst q; exact ho hown)
    · obtain ⟨i, x, o', q1, q2, q3⟩ := ho
      by_cases hi : i = id
      · subst hi; rw [r] at q3; cases q3; exact hown
      · rw [PT.get_put_other _ _ _ _ hi] at q1; exact ⟨i, x, o', q1, q2, q3⟩
    · by_cases hji : j = id
      · subst hji; exact .inl ⟨_, hg⟩
      · rw [PT.get_put_other _ _ _ _ hji] at hz; exact .inl ⟨_, hz⟩

/-- A new block that is no cells. -/
theorem Sim.allocObj (h : Sim B ρ H w) {nx : Pos} (hn : ρ nx = none) (k : Blk) (o : Obj) (hk : k.isCells = false) (ho : ObjOK B (ρ.set nx (w.heap.size, 0, 0)) k o) :
    Sim B (ρ.set nx (w.heap.size, 0, 0)) (PT.put nx (some k) H) (w.alloc o) ∧ Step ρ H nx w (ρ.set nx (w.heap.size, 0, 0)) (PT.put nx (some k) H) nx.succ (w.alloc o) := by
  have hle : ρ.le (ρ.set nx (w.heap.size, 0, 0)) := Env.set_le hn
  have hm := (h.more o).env hle
  have hnew : (w.alloc o).heap[w.heap.size]? = some o := by simp [World.alloc, -World.alloc_eq]
  refine ⟨⟨hm.base, fun j ro l e5 => ?_, fun j x e5 hx => ?_, fun i j x y b2 o2 p2 hi hj hne r1 r2 => ?_, hm.low⟩, Step.alloc hn k o (0, 0)⟩
  · by_cases hj : j = nx
    · subst hj; rw [PT.get_put_same] at e5; cases e5; cases hk
    · rw [PT.get_put_other _ _ _ _ hj] at e5; exact hm.cells j ro l e5
  · by_cases hj : j = nx
    · subst hj; rw [PT.get_put_same] at e5; cases e5
      exact ⟨_, _, o, Env.set_same _ _ _, h.base, hnew, ho⟩
    · rw [PT.get_put_other _ _ _ _ hj] at e5; exact hm.objs j x e5 hx
  · by_cases hi' : i = nx
    · subst hi'
      rw [Env.set_same] at r1; cases r1
      have hj' : j ≠ i := fun q => hne q.symm
      rw [PT.get_put_other _ _ _ _ hj'] at hj
      rw [Env.set_other _ _ hj'] at r2
      have := h.blk_lt hj r2
      omega
    · rw [PT.get_put_other _ _ _ _ hi'] at hi
      rw [Env.set_other _ _ hi'] at r1
      by_cases hj' : j = nx
      · subst hj'
        rw [Env.set_same] at r2; cases r2
        have := h.blk_lt hi r1
        omega
      · rw [PT.get_put_other _ _ _ _ hj'] at hj
        rw [Env.set_other _ _ hj'] at r2
        exact h.inj i j x y _ _ _ hi hj hne r1 r2

end

/-! ### What further operations give -/
def sameK : KD → AV → AV → Option Bool
  | .str, .str l, .str m => some (beqN l m)
  | .bool, .bool a, .bool b => some (a == b)
  | .int q, .int k a, .int k' b => if k = q then (if k' = q then some (decide (a = b)) else none) else none
  | _, _, _ => none

def isKA : KD → AV → Bool
  | .str, .str _ => true
  | .bool, .bool _ => true
  | .int q, .int k _ => decide (k = q)
  | _, _ => false

def findA (kd : KD) (k : AV) : List (AV × AV) → Nat → Option (Option (Nat × AV))
  | [], _ => some none
  | q :: es, i => match sameK kd k q.1 with
    | some true => some (some (i, q.2))
    | some false => findA kd k es (i + 1)
    | none => none

def lookR (ok : Bool) (v : AV) (f : Bool) : AV := match ok with
  | true => .tup [v, .bool f]
  | false => v

def extA (q : XOp) (xs : List AV) (H : AHeap) (nx : Pos) : Option (AV × AHeap × Pos) :=
  match q with
  | .mksz n b z => match xs with
    | [.int _ (.ofNat m), .int _ (.ofNat c)] => if m ≤ c ∧ b * c ≤ 281474976710656 ∧ c ≤ 9223372036854775807 then some (.sl nx 0 m true c n, PT.put nx (some (.cells false (repL z c))) H, nx.succ) else none
    | _ => none
  | .mkmap => match xs with
    | [] => some (.mp nx, PT.put nx (some (.mp [])) H, nx.succ)
    | _ => none
  | .look kd z ok => match xs with
    | [m, k] => match isKA kd k with
      | true => match m with
        | .nilmap => some (lookR ok z false, H, nx)
        | .mp id => match PT.get id H with
          | some (.mp es) => match findA kd k es 0 with
            | some (some (_, v)) => some (lookR ok v true, H, nx)
            | some none => some (lookR ok z false, H, nx)
            | none => none
          | _ => none
        | _ => none
      | false => none
    | _ => none
  | .mset kd => match xs with
    | [.mp id, k, v] => match isKA kd k with
      | true => match PT.get id H with
        | some (.mp es) => match findA kd k es 0 with
          | some (some (i, _)) => some (.tup [], PT.put id (some (.mp (es.set i (k, v)))) H, nx)
          | some none => some (.tup [], PT.put id (some (.mp (es ++ [(k, v)]))) H, nx)
          | none => none
        | _ => none
      | false => none
    | _ => none
  | .iter => match xs with
    | [.str l] => some (.ptr nx 0, PT.put nx (some (.sit l 0)) H, nx.succ)
    | _ => none
  | .next => match xs with
    | [.ptr id 0] => match PT.get id H with
      | some (.sit l pos) => match nthN pos l with
        | some c => if c < 128 then some (.tup [.bool true, .int .i64 (.ofNat pos), .int .i32 (.ofNat c)], PT.put id (some (.sit l (pos + 1))) H, nx) else none
        | none => some (.tup [.bool false], H, nx)
      | _ => none
    | _ => none
  | .ifnil b => match xs with
    | [.nilifc, .nilifc] => some (.bool b, H, nx)
    | [.ifc _ _, .nilifc] => some (.bool (!b), H, nx)
    | _ => none
  | .sl0 n => match xs with
    | [] => some (.sl nx 0 0 true 0 n, PT.put nx (some (.cells false [])) H, nx.succ)
    | _ => none

theorem extA_mono {q : XOp} {xs : List AV} {H : AHeap} {nx : Pos} {v : AV} {H' : AHeap} {nx' : Pos} (h : extA q xs H nx = some (v, H', nx')) : nx.toNat ≤ nx'.toNat := by
  unfold extA at h
  repeat' split at h
  all_goals first
    | (cases h; done)
    | (simp only [Option.some.injEq, Prod.mk.injEq] at h; obtain ⟨_, _, rfl⟩ := h; first | exact Nat.le_refl _ | (rw [Pos.toNat_succ]; omega))

theorem bytes_beqN {s u : ByteArray} {l m : List Nat} (h1 : s.data.toList.map UInt8.toNat = l) (h2 : u.data.toList.map UInt8.toNat = m) : (s == u) = beqN l m := by
  rw [beqN_eq]
  by_cases h : s = u
  · subst h
    subst h1
    subst h2
    rw [(MapKept.bytes_beq s s).2 rfl]
    simp
  · have hne : ¬ l = m := fun e => h (by
      subst h1 h2
      have := bytes_inj e
      cases s; cases u
      simp only [ByteArray.mk.injEq]
      exact Array.toList_inj.1 this)
    rw [decide_eq_false hne]
    cases hb : (s == u) with
    | false => rfl
    | true => exact absurd ((MapKept.bytes_beq s u).1 hb) h

/-! ### Maps -/
def KD.desc : KD → TypeDesc
  | .str => .string
  | .bool => .bool
  | .int k => .int k

theorem kdOf_spec {P : Program} {t : TypeId} {kd : KD} (h : kdOf P t = some kd) : P.underlying t = some kd.desc := by
  unfold kdOf at h
  split at h
  · rename_i e; cases h; exact e
  · rename_i e; cases h; exact e
  · rename_i k e; cases h; exact e
  · cases h

theorem isKA_spec {ρ : Env} {kd : KD} {k : AV} {kv : Value} (h : isKA kd k = true) (r : Rel ρ k kv) : MapKept.IsKey kd.desc kv := by
  unfold isKA at h
  split at h
  · simp only [Rel] at r; obtain ⟨s, rfl, _⟩ := r; trivial
  · simp only [Rel] at r; subst r; trivial
  · simp only [Rel] at r; subst r; rename_i q k n; have e : k = q := of_decide_eq_true h; exact e
  · cases h

theorem sameK_spec {ρ : Env} {kd : KD} {a b : AV} {va vb : Value} {r : Bool} (h : sameK kd a b = some r) (ra : Rel ρ a va) (rb : Rel ρ b vb) :
    Instr.sameNow kd.desc va vb = some r ∧ (r = true → Instr.sameBits 10000 vb va = true) := by
  unfold sameK at h
  split at h
  · rename_i l m
    simp only [Rel] at ra rb
    obtain ⟨s, rfl, hs⟩ := ra
    obtain ⟨u, rfl, hu⟩ := rb
    simp only [Option.some.injEq] at h
    subst h
    have e := bytes_beqN hs hu
    refine ⟨by simp [KD.desc, Instr.sameNow, e], fun ht => ?_⟩
    rw [← e] at ht
    have : s = u := (MapKept.bytes_beq s u).1 ht
    subst this
    simpa [Instr.sameBits] using ht
  · simp only [Rel] at ra rb
    subst ra rb
    simp only [Option.some.injEq] at h
    subst h
    refine ⟨by simp [KD.desc, Instr.sameNow], fun ht => ?_⟩
    have := eq_of_beq ht
    subst this
    simp [Instr.sameBits]
  · rename_i q k a k' b
    split at h
    · rename_i e1
      split at h
      · rename_i e2
        subst e1 e2
        simp only [Rel] at ra rb
        subst ra rb
        simp only [Option.some.injEq] at h
        subst h
        refine ⟨by simp [KD.desc, Instr.sameNow]; rfl, fun ht => ?_⟩
        have := of_decide_eq_true ht
        subst this
        simp [Instr.sameBits]
      · cases h
    · cases h
  · cases h

/-- What was found: where, and what. -/
def FoundR (ρ : Env) (kv : Value) (arr : List MapEntry) (i : Nat) : Option (Nat × AV) → Option (Nat × Value) → Prop
  | none, none => True
  | some (j, v), some (j', v') => j = j' ∧ i ≤ j ∧ Rel ρ v v' ∧ ∃ e, arr[j - i]? = some e ∧ Instr.sameBits 10000 e.key kv = true
  | _, _ => False

theorem findA_spec {ρ : Env} {kd : KD} {k : AV} {kv : Value} (rk : Rel ρ k kv) : ∀ {es : List (AV × AV)} {arr : List MapEntry} {i : Nat} {r : Option (Nat × AV)}, findA kd k es i = some r → RelE ρ es arr →
    ∃ r', Instr.findNow kd.desc kv arr i = some r' ∧ FoundR ρ kv arr i r r'
  | [], arr, i, r, h, re => by
    simp only [RelE] at re
    subst re
    simp only [findA, Option.some.injEq] at h
    subst h
    exact ⟨none, rfl, trivial⟩
  | q :: es, arr, i, r, h, re => by
    obtain ⟨e, vs, rfl, r1, r2, r3⟩ := re
    simp only [findA] at h
    split at h
    · rename_i hs
      simp only [Option.some.injEq] at h
      subst h
      obtain ⟨s1, s2⟩ := sameK_spec hs rk r1
      exact ⟨some (i, e.val), by simp [Instr.findNow, s1], rfl, Nat.le_refl _, r2, e, by simp, s2 rfl⟩
    · rename_i hs
      obtain ⟨s1, _⟩ := sameK_spec hs rk r1
      obtain ⟨r', h1, h2⟩ := findA_spec rk h r3
      refine ⟨r', by simp [Instr.findNow, s1, h1], ?_⟩
      cases r with
      | none =>
        cases r' with
        | none => trivial
        | some _ => exact h2.elim
      | some p =>
        obtain ⟨j, v⟩ := p
        cases r' with
        | none => exact h2.elim
        | some p' =>
          obtain ⟨j', v'⟩ := p'
          obtain ⟨q1, q2, q3, e', q4, q5⟩ := h2
          refine ⟨q1, by omega, q3, e', ?_, q5⟩
          rw [show j - i = (j - (i + 1)) + 1 by omega]
          simpa using q4
    · cases h

theorem RelE.modify {ρ : Env} {k v : AV} {f : MapEntry → MapEntry} (hf : ∀ e, Rel ρ k (f e).key ∧ Rel ρ v (f e).val) : ∀ {es : List (AV × AV)} {arr : List MapEntry} {i : Nat}, RelE ρ es arr → RelE ρ (es.set i (k, v)) (arr.modify i f)
  | [], arr, i, h => by
    simp only [RelE] at h
    subst h
    cases i <;> simp [RelE]
  | a :: es, arr, 0, h => by
    obtain ⟨e, vs, rfl, r1, r2, r3⟩ := h
    refine ⟨f e, vs, by simp, (hf e).1, (hf e).2, r3⟩
  | a :: es, arr, i + 1, h => by
    obtain ⟨e, vs, rfl, r1, r2, r3⟩ := h
    exact ⟨e, vs.modify i f, by simp, r1, r2, RelE.modify hf r3⟩

theorem RelE.snoc {ρ : Env} {k v : AV} {e : MapEntry} (hk : Rel ρ k e.key) (hv : Rel ρ v e.val) : ∀ {es : List (AV × AV)} {arr : List MapEntry}, RelE ρ es arr → RelE ρ (es ++ [(k, v)]) (arr ++ [e])
  | [], arr, h => by
    simp only [RelE] at h
    subst h
    exact ⟨e, [], rfl, hk, hv, rfl⟩
  | a :: es, arr, h => by
    obtain ⟨e', vs, rfl, r1, r2, r3⟩ := h
    exact ⟨e', vs ++ [e], rfl, r1, r2, RelE.snoc hk hv r3⟩

theorem repL_get : ∀ (z : List AV) (n : Nat) (i : Nat), i < n * z.length → (repL z n)[i]? = z[i % z.length]?
  | z, 0, i, h => by simp at h
  | z, n + 1, i, h => by
    simp only [repL]
    by_cases hi : i < z.length
    · rw [List.getElem?_append_left hi, Nat.mod_eq_of_lt hi]
    · have e : (n + 1) * z.length = n * z.length + z.length := by rw [Nat.add_mul, Nat.one_mul]
      rw [List.getElem?_append_right (by omega), repL_get z n (i - z.length) (by omega), ← Nat.mod_eq_sub_mod (by omega)]
theorem repL_length : ∀ (z : List AV) (n : Nat), (repL z n).length = n * z.length
  | z, 0 => by simp [repL]
  | z, n + 1 => by simp [repL, repL_length z n, Nat.add_mul]; omega

/-! ### That it is so -/
section
variable {P : Program} {gs : List Nat} {B : Base} {ρ : Env} {H : AHeap} {w : World} {e : AX → AV} {η : Operand → Value}

theorem cop_ext {o : Oper} {q : XOp} {xs : List AX} (hc : cop P gs o = some (.ext q xs)) : match q with
    | .mksz n b z => ∃ t l c el, o.op = .makeSlice t l c ∧ P.underlying t = some (.slice el) ∧ szOf P el = some n ∧ (P.info? el).map (·.bytes) = some b ∧ zeroOf P el = some z ∧ z.length = n ∧ 0 < n ∧ coxs gs [l, c] = some xs
    | .mkmap => ∃ t, o.op = .makeMap t none ∧ xs = []
    | .look kd z ok => ∃ t m k kt el, o.op = .lookup t m k ok ∧ P.underlying t = some (.map kt el) ∧ kdOf P kt = some kd ∧ ((P.info? el).bind (·.zero)).bind ofConst = some z ∧ coxs gs [m, k] = some xs
    | .mset kd => ∃ t m k x kt el, o.op = .mapUpdate t m k x ∧ P.underlying t = some (.map kt el) ∧ kdOf P kt = some kd ∧ coxs gs [m, k, x] = some xs
    | .iter => ∃ t x, o.op = .range t x ∧ P.underlying t = some .string ∧ coxs gs [x] = some xs
    | .next => ∃ it, o.op = .next it true ∧ coxs gs [it] = some xs
    | .ifnil b => ∃ op t x yt ms, o.op = .binOp op t x (.const .nilIface) yt ∧ P.underlying t = some (.interface ms) ∧ op = (if b then .eql else .neq) ∧ coxs gs [x, .const .nilIface] = some xs
    | .sl0 n => ∃ t el, o.op = .buildSlice t 0 #[] ∧ P.underlying t = some (.slice el) ∧ szOf P el = some n ∧ xs = [] := by
  have ht := cop_tag hc
  cases q <;> cases ho : o.op <;> rw [ho] at ht <;> simp [Op.tags, AOp.tag, XOp.tag] at ht
  all_goals simp only [cop, ho] at hc
  · split at hc
    · rename_i t l c _ el hu
      split at hc
      · rename_i n' b' z' hn hb hz
        split at hc
        · rename_i hl
          simp only [Option.map_eq_some_iff, AOp.ext.injEq, XOp.mksz.injEq] at hc
          obtain ⟨xs', hx, ⟨rfl, rfl, rfl⟩, rfl⟩ := hc
          exact ⟨t, l, c, el, rfl, hu, hn, hb, hz, hl.1, hl.2, hx⟩
        · cases hc
      · cases hc
    · cases hc
  · rename_i t r
    cases r with
    | none => simp at hc; exact ⟨t, rfl, hc⟩
    | some r => cases hc
  · rename_i t m k ok'
    split at hc
    · rename_i kt el hu
      split at hc
      · rename_i kd' z' hk hz
        simp only [Option.map_eq_some_iff, AOp.ext.injEq, XOp.look.injEq] at hc
        obtain ⟨xs', hx, ⟨rfl, rfl, rfl⟩, rfl⟩ := hc
        exact ⟨t, m, k, kt, el, rfl, hu, hk, hz, hx⟩
      · cases hc
    · cases hc
  · rename_i t m k x
    split at hc
    · rename_i kt el hu
      split at hc
      · rename_i kd' hk
        simp only [Option.map_eq_some_iff, AOp.ext.injEq, XOp.mset.injEq] at hc
        obtain ⟨xs', hx, rfl, rfl⟩ := hc
        exact ⟨t, m, k, x, kt, el, rfl, hu, hk, hx⟩
      · cases hc
    · cases hc
  · rename_i t x
    split at hc
    · rename_i hu
      simp only [Option.map_eq_some_iff, AOp.ext.injEq, true_and] at hc
      obtain ⟨xs', hx, rfl⟩ := hc
      exact ⟨t, x, rfl, hu, hx⟩
    · cases hc
  · rename_i it s
    split at hc
    · rename_i hs
      subst hs
      simp only [Option.map_eq_some_iff, AOp.ext.injEq, true_and] at hc
      obtain ⟨xs', hx, rfl⟩ := hc
      exact ⟨it, rfl, hx⟩
    · cases hc
  · rename_i op t x y yt
    split at hc
    · rename_i b' hb
      simp only [Option.map_eq_some_iff, AOp.ext.injEq, XOp.ifnil.injEq] at hc
      obtain ⟨xs', hx, rfl, rfl⟩ := hc
      unfold cnil at hb
      split at hb
      · split at hb
        · rename_i ms hu
          split at hb
          · cases hb
            exact ⟨_, t, x, yt, ms, rfl, hu, rfl, hx⟩
          · cases hb
            exact ⟨_, t, x, yt, ms, rfl, hu, rfl, hx⟩
          · cases hb
        · cases hb
      · cases hb
    · obtain ⟨_, _, _, _, hq⟩ := m2_some hc
      cases hq
  · rename_i t len ps
    split at hc
    · rename_i hl
      subst hl
      unfold csl0 at hc
      split at hc
      · rename_i el hu
        split at hc
        · rename_i n' hn
          split at hc
          · rename_i hps
            simp only [Option.some.injEq, AOp.ext.injEq, XOp.sl0.injEq] at hc
            obtain ⟨rfl, rfl⟩ := hc
            have : ps = #[] := Array.toList_inj.1 (by simpa using hps)
            subst this
            exact ⟨t, el, rfl, hu, hn, rfl⟩
          · cases hc
        · cases hc
      · cases hc
    · unfold cmksl at hc
      repeat' split at hc
      all_goals first
        | (cases hc; done)
        | (simp at hc; done)

theorem lookR_rel {ok f : Bool} {v : AV} {v' : Value} (h : Rel ρ v v') : Rel ρ (lookR ok v f) (if ok then .tuple #[v', .bool f] else v') := by
  cases ok
  · exact h
  · simp only [lookR, if_true, Rel]
    exact ⟨_, rfl, RelL.cons h (RelL.cons (by simp [Rel]) RelL.nil)⟩

/-- What an operation that is carried out comes to. -/
def Out (o : Next) (v' : Value) : Prop := o = .value v' ∨ (o = .skip ∧ v' = undef)

theorem undef_rel : Rel ρ (.tup []) undef := by simp only [Rel]; exact ⟨#[], rfl, RelL.nil⟩

theorem two_rel {a b : AV} {l : List Value} (h : RelL ρ [a, b] l) : ∃ x y, l = [x, y] ∧ Rel ρ a x ∧ Rel ρ b y := by
  simp only [RelL] at h
  obtain ⟨x, _, rfl, hx, y, _, rfl, hy, rfl⟩ := h
  exact ⟨x, y, rfl, hx, hy⟩

theorem eq0_ii (d : Nat) (t : TypeId) (w : World) {ms : Array (String × TypeId)} (h : P.underlying t = some (.interface ms)) : (Op.equalIn (d + 1) t .nilIface .nilIface).run P w = .ok true w := by simp [Op.equalIn, run_underlying h]
theorem eq0_vi (d : Nat) (t : TypeId) (w : World) {ms : Array (String × TypeId)} (tv : TypeId) (v : Value) (h : P.underlying t = some (.interface ms)) : (Op.equalIn (d + 1) t (.iface tv v) .nilIface).run P w = .ok false w := by simp [Op.equalIn, run_underlying h]

theorem ext_sound {o : Oper} {q : XOp} {xs : List AX} {v : AV} {H' : AHeap} {nx nx' : Pos} (hS : Sim B ρ H w) (hE : Evs gs ρ e η) (hc : cop P gs o = some (.ext q xs)) (hp : extA q (xs.map e) H nx = some (v, H', nx')) (hF : Fresh ρ nx nx') :
    ∃ out v' w' ρ', (execOp η o).run P w = .ok out w' ∧ Out out v' ∧ Sim B ρ' H' w' ∧ Step ρ H nx w ρ' H' nx' w' ∧ Rel ρ' v v' := by
  have hq := cop_ext hc
  have fresh : nx' = nx.succ → ρ nx = none := fun e => hF nx (Nat.le_refl _) (by rw [e, Pos.toNat_succ]; omega)
  cases q with
  | mksz n b z =>
    obtain ⟨t, l, c, el, ho, hu, hn, hb, hz, hl, hpos, hx⟩ := hq
    have rx := hE.list hx
    simp only [extA] at hp
    split at hp
    · rename_i k1 m k2 c' hxs
      rw [hxs] at rx
      split at hp
      · rename_i hle
        simp only [Option.some.injEq, Prod.mk.injEq] at hp
        obtain ⟨rfl, rfl, rfl⟩ := hp
        obtain ⟨x, y, e1, r1, r2⟩ := two_rel rx
        simp only [List.map_cons, List.map_nil, List.cons.injEq, and_true] at e1
        simp only [Rel] at r1 r2
        obtain ⟨e1, e2⟩ := e1
        rw [r1] at e1
        rw [r2] at e2
        unfold szOf at hn
        simp only [Option.map_eq_some_iff] at hn hb
        obtain ⟨i, hi, rfl⟩ := hn
        obtain ⟨i', hi', rfl⟩ := hb
        rw [hi] at hi'; cases hi'
        unfold zeroOf at hz
        rw [hi] at hz
        simp only [Option.bind_some, Option.bind_eq_some_iff] at hz
        obtain ⟨zv, hzv, hz⟩ := hz
        have hrz : RelL ρ z zv.cells.toList := ofVals_rel hz
        have hzl : zv.cells.size = z.length := by simpa using hrz.length.symm
        have hrun := run_make (P := P) w t el i zv hu hi hzv k1 k2 (Int.ofNat m) (Int.ofNat c') (Int.natCast_nonneg m) (by simpa using hle.1) (by
          have := hle.2.1
          have h2 : ((i.bytes * c' : Nat) : Int) ≤ 281474976710656 := by omega
          simpa using h2) (by have := hle.2.2; simp; omega)
        have hrel : RelL ρ (repL z c') (madeCells zv.cells (c' * i.size)).toList := by
          refine RelL.of_get (by simp [repL_length, size_madeCells, hl]) fun j a vv ha hv => ?_
          have hj : j < c' * z.length := by
            have := (List.getElem?_eq_some_iff.1 ha).1
            rwa [repL_length] at this
          rw [repL_get z c' j hj] at ha
          have hj2 : j < c' * i.size := by rw [← hl]; exact hj
          simp only [madeCells, Array.toList_map, Array.toList_range, List.getElem?_map, List.getElem?_range hj2, Option.map_some, Option.some.injEq] at hv
          subst hv
          have hlt : j % z.length < z.length := Nat.mod_lt _ (by omega)
          obtain ⟨cv, hcv, hr⟩ := hrz.get ha
          rw [hzl]
          have hlt2 : j % z.length < zv.cells.size := by rw [hzl]; exact hlt
          rw [getElem!_pos zv.cells (j % z.length) hlt2]
          have : zv.cells.toList[j % z.length]? = some (zv.cells[j % z.length]'hlt2) := by simp [hlt2]
          rw [this] at hcv
          cases hcv
          exact hr
        refine ⟨_, .slice (some ⟨w.heap.size, 0, none⟩) m c', _, _, ?_, .inl rfl, hS.alloc (fresh rfl) hrel el [], Step.alloc (fresh rfl) _ _ _, ?_⟩
        · simp only [execOp, ho]
          refine lift_value ?_
          rw [e1, e2, hrun]
          simp
        · simp only [Rel]
          refine ⟨_, _, _, c', Env.set_same _ _ _, Nat.le_refl _, fun _ => rfl, ?_, by simp⟩
          simp [size_madeCells]
      · cases hp
    · cases hp
  | sl0 n =>
    obtain ⟨t, el, ho, hu, hn, rfl⟩ := hq
    simp only [extA, List.map_nil, Option.some.injEq, Prod.mk.injEq] at hp
    obtain ⟨rfl, rfl, rfl⟩ := hp
    have hal := hS.alloc (l := []) (cs := []) (fresh rfl) RelL.nil el []
    refine ⟨_, .slice (some ⟨w.heap.size, 0, none⟩) 0 0, _, _, ?_, .inl rfl, hal, Step.alloc (fresh rfl) _ _ _, ?_⟩
    · simp only [execOp, ho]
      refine lift_value ?_
      simp [Instr.buildSlice, run_underlying hu, run_sizeOf w hn, Instr.fill, newRow]
      congr
      apply Array.eq_empty_of_size_eq_zero
      simp
    · simp only [Rel]
      exact ⟨_, _, _, 0, Env.set_same _ _ _, Nat.le_refl _, fun _ => rfl, by simp, by simp⟩
  | mkmap =>
    obtain ⟨t, ho, rfl⟩ := hq
    simp only [extA, List.map_nil, Option.some.injEq, Prod.mk.injEq] at hp
    obtain ⟨rfl, rfl, rfl⟩ := hp
    obtain ⟨s1, s2⟩ := hS.allocObj (fresh rfl) (.mp []) (.map #[] 0) rfl ⟨#[], 0, rfl, rfl⟩
    refine ⟨_, .map (some w.heap.size), _, _, ?_, .inl rfl, s1, s2, ?_⟩
    · simp only [execOp, ho]
      refine lift_value ?_
      simp [Instr.makeMap]
    · simp only [Rel]
      exact ⟨_, _, _, Env.set_same _ _ _, rfl⟩
  | look kd z ok =>
    obtain ⟨t, m, k, kt, el, ho, hu, hk, hz, hx⟩ := hq
    have rx := hE.list hx
    simp only [extA] at hp
    split at hp
    · rename_i ma ka hxs
      rw [hxs] at rx
      obtain ⟨x, y, e1, r1, r2⟩ := two_rel rx
      simp only [List.map_cons, List.map_nil, List.cons.injEq, and_true] at e1
      obtain ⟨e1, e2⟩ := e1
      simp only [Option.bind_eq_some_iff] at hz
      obtain ⟨zv, ⟨i, hi, hzv⟩, hz⟩ := hz
      have rz : Rel ρ z zv := ofConst_rel hz
      have hzr : (zeroValue el).run P w = .ok zv w := by simp [zeroValue, typeInfo, hi, hzv]
      split at hp
      · rename_i hkey
        have hkd := kdOf_spec hk
        have hck := fun b => MapKept.run_checkKey (P := P) (w := w) hkd (isKA_spec hkey r2) b 9999
        have fin : ∀ {vv : AV} {v2 : Value} {f : Bool}, (Instr.lookup t x y ok).run P w = .ok (if ok then .tuple #[v2, .bool f] else v2) w → Rel ρ vv v2 →
            ∃ out v' w' ρ', (execOp η o).run P w = .ok out w' ∧ Out out v' ∧ Sim B ρ' H w' ∧ Step ρ H nx w ρ' H nx w' ∧ Rel ρ' (lookR ok vv f) v' := by
          intro vv v2 f h1 h2
          refine ⟨_, _, w, ρ, ?_, .inl rfl, hS, Step.refl _ _ _ _, lookR_rel h2⟩
          simp only [execOp, ho]
          refine lift_value ?_
          rw [e1, e2]
          exact h1
        split at hp
        · simp only [Rel] at r1
          subst r1
          simp only [Option.some.injEq, Prod.mk.injEq] at hp
          obtain ⟨rfl, rfl, rfl⟩ := hp
          refine fin ?_ rz
          have hf : Instr.findNow kd.desc y ([] : List MapEntry) 0 = some none := rfl
          simp [Instr.lookup, run_underlying hu, hck, MapKept.run_findKey hkd hf, hzr, Result.andThen]
        · rename_i id
          simp only [Rel] at r1
          obtain ⟨b, o', mm, rid, rfl⟩ := r1
          split at hp
          · rename_i es hg
            obtain ⟨b', m', ob, q1, q2, q3, arr, clock, rfl, q4⟩ := hS.objs id _ hg rfl
            rw [rid] at q1
            cases q1
            split at hp
            · rename_i j vv hf
              simp only [Option.some.injEq, Prod.mk.injEq] at hp
              obtain ⟨rfl, rfl, rfl⟩ := hp
              obtain ⟨r', f1, f2⟩ := findA_spec r2 hf q4
              cases r' with
              | none => exact f2.elim
              | some p =>
                obtain ⟨j', v2⟩ := p
                obtain ⟨_, _, f3, _⟩ := f2
                refine fin ?_ f3
                simp [Instr.lookup, run_underlying hu, MapKept.run_getObj_map q3, hck, MapKept.run_findKey hkd f1, Result.andThen]
            · rename_i hf
              simp only [Option.some.injEq, Prod.mk.injEq] at hp
              obtain ⟨rfl, rfl, rfl⟩ := hp
              obtain ⟨r', f1, f2⟩ := findA_spec r2 hf q4
              cases r' with
              | some p => exact f2.elim
              | none =>
                refine fin ?_ rz
                simp [Instr.lookup, run_underlying hu, MapKept.run_getObj_map q3, hck, MapKept.run_findKey hkd f1, hzr, Result.andThen]
            · cases hp
          · cases hp
        · cases hp
      · cases hp
    · cases hp
  | mset kd =>
    obtain ⟨t, m, k, x0, kt, el, ho, hu, hk, hx⟩ := hq
    have rx := hE.list hx
    simp only [extA] at hp
    split at hp
    · rename_i id ka va hxs
      rw [hxs] at rx
      simp only [RelL] at rx
      obtain ⟨x, _, e1, r1, y, _, e2, r2, z, _, e3, r3, e4⟩ := rx
      subst e4 e3 e2
      simp only [List.map_cons, List.map_nil, List.cons.injEq, and_true] at e1
      obtain ⟨e1, e2, e3⟩ := e1
      split at hp
      · rename_i hkey
        have hkd := kdOf_spec hk
        have hck := MapKept.run_checkKey (P := P) (w := w) hkd (isKA_spec hkey r2) false 9999
        simp only [Rel] at r1
        obtain ⟨b, o', mm, rid, rfl⟩ := r1
        split at hp
        · rename_i es hg
          obtain ⟨b', m', ob, q1, q2, q3, arr, clock, rfl, q4⟩ := hS.objs id _ hg rfl
          rw [rid] at q1
          cases q1
          have fin : ∀ {es' : List (AV × AV)} {arr' : Array MapEntry} {clock' : Nat}, (Instr.mapUpdate t (.map (some b)) y z).run P w = .ok () { w with heap := w.heap.setIfInBounds b (.map arr' clock') } → RelE ρ es' arr'.toList →
              ∃ out v' w' ρ', (execOp η o).run P w = .ok out w' ∧ Out out v' ∧ Sim B ρ' (PT.put id (some (.mp es')) H) w' ∧ Step ρ H nx w ρ' (PT.put id (some (.mp es')) H) nx w' ∧ Rel ρ' (.tup []) v' := by
            intro es' arr' clock' h1 h2
            obtain ⟨s1, s2⟩ := hS.putObj (o := .map arr' clock') hg rfl rid (k := some (.mp es')) (fun k' hk' => by cases hk'; exact ⟨rfl, arr', clock', rfl, h2⟩) nx
            refine ⟨.skip, undef, _, ρ, ?_, .inr ⟨rfl, rfl⟩, s1, s2, undef_rel⟩
            simp only [execOp, ho]
            rw [e1, e2, e3]
            simp [h1, World.putObj]
          split at hp
          · rename_i j vv hf
            simp only [Option.some.injEq, Prod.mk.injEq] at hp
            obtain ⟨rfl, rfl, rfl⟩ := hp
            obtain ⟨r', f1, f2⟩ := findA_spec r2 hf q4
            cases r' with
            | none => exact f2.elim
            | some p =>
              obtain ⟨j', v2⟩ := p
              obtain ⟨rfl, _, f3, en, f4, f5⟩ := f2
              refine fin (arr' := arr.modify j fun e => { e with key := y, val := z }) (clock' := clock) ?_ (by
                rw [Array.toList_modify]
                exact RelE.modify (fun e => ⟨r2, r3⟩) q4)
              have f4' : arr[j]? = some en := by simpa using f4
              simp [Instr.mapUpdate, run_underlying hu, MapKept.run_getObj_map q3, hck, MapKept.run_findKey hkd f1, MapKept.run_setObj_map _ q3, Result.andThen, Instr.keyThatStays, f4', f5]
          · rename_i hf
            simp only [Option.some.injEq, Prod.mk.injEq] at hp
            obtain ⟨rfl, rfl, rfl⟩ := hp
            obtain ⟨r', f1, f2⟩ := findA_spec r2 hf q4
            cases r' with
            | some p => exact f2.elim
            | none =>
              refine fin (arr' := arr.push { key := y, val := z, born := clock }) (clock' := clock + 1) ?_ (by
                rw [Array.toList_push]
                exact RelE.snoc r2 r3 q4)
              simp [Instr.mapUpdate, run_underlying hu, MapKept.run_getObj_map q3, hck, MapKept.run_findKey hkd f1, MapKept.run_setObj_map _ q3, Result.andThen]
          · cases hp
        · cases hp
      · cases hp
    · cases hp
  | iter =>
    obtain ⟨t, x0, ho, hu, hx⟩ := hq
    have rx := hE.list hx
    simp only [extA] at hp
    split at hp
    · rename_i l hxs
      rw [hxs] at rx
      simp only [RelL] at rx
      obtain ⟨x, _, e1, r1, e2⟩ := rx
      subst e2
      simp only [List.map_cons, List.map_nil, List.cons.injEq, and_true] at e1
      simp only [Option.some.injEq, Prod.mk.injEq] at hp
      obtain ⟨rfl, rfl, rfl⟩ := hp
      simp only [Rel] at r1
      obtain ⟨s, rfl, hs⟩ := r1
      obtain ⟨s1, s2⟩ := hS.allocObj (fresh rfl) (.sit l 0) (.stringIter s 0) rfl ⟨s, rfl, hs⟩
      refine ⟨_, .pointer (some ⟨w.heap.size, 0, none⟩), _, _, ?_, .inl rfl, s1, s2, ?_⟩
      · simp only [execOp, ho]
        refine lift_value ?_
        rw [e1]
        simp [Instr.range, run_underlying hu]
      · simp only [Rel]
        exact ⟨_, _, _, Env.set_same _ _ _, rfl⟩
    · cases hp
  | next =>
    obtain ⟨it, ho, hx⟩ := hq
    have rx := hE.list hx
    simp only [extA] at hp
    split at hp
    · rename_i id hxs
      rw [hxs] at rx
      simp only [RelL] at rx
      obtain ⟨x, _, e1, r1, e2⟩ := rx
      subst e2
      simp only [List.map_cons, List.map_nil, List.cons.injEq, and_true] at e1
      simp only [Rel] at r1
      obtain ⟨b, o', mm, rid, rfl⟩ := r1
      split at hp
      · rename_i l pos hg
        obtain ⟨b', m', ob, q1, q2, q3, s, rfl, q4⟩ := hS.objs id _ hg rfl
        rw [rid] at q1
        cases q1
        have hget : (getObj b).run P w = .ok (.stringIter s pos) w := by simp [getObj, Sem.run, q3]
        split at hp
        · rename_i c hn
          split at hp
          · rename_i hc128
            simp only [Option.some.injEq, Prod.mk.injEq] at hp
            obtain ⟨rfl, rfl, rfl⟩ := hp
            rw [nthN_eq, ← q4, List.getElem?_map, Option.map_eq_some_iff] at hn
            obtain ⟨u, hu, rfl⟩ := hn
            have hlt : pos < s.size := by
              have := (List.getElem?_eq_some_iff.1 hu).1
              simpa using this
            have hsu : s[pos]'hlt = u := by
              have h2 := (List.getElem?_eq_some_iff.1 hu).2
              have h3 : s.data[pos]'(by simpa using hlt) = u := by simpa using h2
              exact h3
            have hd := decode_ascii s pos hlt (by rw [hsu]; exact hc128)
            rw [hsu] at hd
            obtain ⟨s1, s2⟩ := hS.putObj (o := .stringIter s (pos + 1)) hg rfl rid (k := some (.sit l (pos + 1))) (fun k' hk' => by cases hk'; exact ⟨rfl, s, rfl, q4⟩) nx
            refine ⟨_, .tuple #[.bool true, .int .i64 pos, .int .i32 u.toNat], _, ρ, ?_, .inl rfl, s1, s2, ?_⟩
            · simp only [execOp, ho]
              refine lift_value ?_
              rw [e1]
              have hset : (setObj b (.stringIter s (pos + 1))).run P w = .ok () (w.putObj b (.stringIter s (pos + 1))) := by
                simp [setObj, Sem.run, q3, World.putObj]
              simp [Instr.next, hget, hlt, hd, hset, goInt]
            · simp only [Rel]
              exact ⟨_, rfl, RelL.cons (by simp [Rel]) (RelL.cons (by simp [Rel]) (RelL.cons (by simp [Rel]) RelL.nil))⟩
          · cases hp
        · rename_i hn
          simp only [Option.some.injEq, Prod.mk.injEq] at hp
          obtain ⟨rfl, rfl, rfl⟩ := hp
          have hge : ¬ pos < s.size := by
            intro hlt
            rw [nthN_eq, ← q4, List.getElem?_map, Option.map_eq_none_iff, List.getElem?_eq_none_iff] at hn
            have : s.data.toList.length = s.size := by simp
            omega
          refine ⟨_, .tuple #[.bool false], w, ρ, ?_, .inl rfl, hS, Step.refl _ _ _ _, ?_⟩
          · simp only [execOp, ho]
            refine lift_value ?_
            rw [e1]
            simp [Instr.next, hget, hge]
          · simp only [Rel]
            exact ⟨_, rfl, RelL.cons (by simp [Rel]) RelL.nil⟩
      · cases hp
    · cases hp
  | ifnil b =>
    obtain ⟨op, t, x0, yt, ms, ho, hu, hop, hx⟩ := hq
    have rx := hE.list hx
    simp only [extA] at hp
    split at hp
    · rename_i hxs
      rw [hxs] at rx
      simp only [Option.some.injEq, Prod.mk.injEq] at hp
      obtain ⟨rfl, rfl, rfl⟩ := hp
      obtain ⟨x, y, e1, r1, r2⟩ := two_rel rx
      simp only [List.map_cons, List.map_nil, List.cons.injEq, and_true] at e1
      obtain ⟨e1, e2⟩ := e1
      simp only [Rel] at r1 r2
      subst r1 r2
      refine ⟨_, .bool b, w, ρ, ?_, .inl rfl, hS, Step.refl _ _ _ _, by simp [Rel]⟩
      simp only [execOp, ho]
      refine lift_value ?_
      rw [e1, e2]
      subst hop
      have heq : (Op.equal t .nilIface .nilIface).run P w = .ok true w := eq0_ii _ _ w hu
      cases b
      · have hb : binOp .neq t .nilIface .nilIface = (do pure (.bool (!(← Op.equal t .nilIface .nilIface)))) := rfl
        have hg : ∀ o1, (eqGuard .neq t o1 (.const .nilIface) .nilIface .nilIface).run P w = .ok () w := fun o1 => by simp [eqGuard]
        simp only [Bool.false_eq_true, if_false, Sem.run_bind, hg, Result.andThen_ok, hb, heq]
        rfl
      · have hb : binOp .eql t .nilIface .nilIface = (do pure (.bool (← Op.equal t .nilIface .nilIface))) := rfl
        have hg : ∀ o1, (eqGuard .eql t o1 (.const .nilIface) .nilIface .nilIface).run P w = .ok () w := fun o1 => by simp [eqGuard]
        simp only [if_true, Sem.run_bind, hg, Result.andThen_ok, hb, heq]
        rfl
    · rename_i ta va hxs
      rw [hxs] at rx
      simp only [Option.some.injEq, Prod.mk.injEq] at hp
      obtain ⟨rfl, rfl, rfl⟩ := hp
      obtain ⟨x, y, e1, r1, r2⟩ := two_rel rx
      simp only [List.map_cons, List.map_nil, List.cons.injEq, and_true] at e1
      obtain ⟨e1, e2⟩ := e1
      simp only [Rel] at r1 r2
      obtain ⟨vx, rfl, _⟩ := r1
      subst r2
      refine ⟨_, .bool (!b), w, ρ, ?_, .inl rfl, hS, Step.refl _ _ _ _, by simp [Rel]⟩
      simp only [execOp, ho]
      refine lift_value ?_
      rw [e1, e2]
      subst hop
      have heq : (Op.equal t (.iface ta vx) .nilIface).run P w = .ok false w := eq0_vi _ _ w _ _ hu
      cases b
      · have hb : binOp .neq t (.iface ta vx) .nilIface = (do pure (.bool (!(← Op.equal t (.iface ta vx) .nilIface)))) := rfl
        have hg : ∀ o1, (eqGuard .neq t o1 (.const .nilIface) (.iface ta vx) .nilIface).run P w = .ok () w := fun o1 => by simp [eqGuard]
        simp only [Bool.false_eq_true, if_false, Sem.run_bind, hg, Result.andThen_ok, hb, heq]
        rfl
      · have hb : binOp .eql t (.iface ta vx) .nilIface = (do pure (.bool (← Op.equal t (.iface ta vx) .nilIface))) := rfl
        have hg : ∀ o1, (eqGuard .eql t o1 (.const .nilIface) (.iface ta vx) .nilIface).run P w = .ok () w := fun o1 => by simp [eqGuard]
        simp only [if_true, Sem.run_bind, hg, Result.andThen_ok, hb, heq]
        rfl
    · cases hp
end
end Go.Abs
