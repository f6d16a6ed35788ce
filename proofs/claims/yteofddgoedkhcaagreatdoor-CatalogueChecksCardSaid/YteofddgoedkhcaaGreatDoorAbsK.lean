/- The abstract interpreter, part K: stores and appends. -/
import Derived.Test.YteofddgoedkhcaaGreatDoorAbsJ
namespace Go.Abs

def allOne : List AV → Bool
  | [] => true
  | a :: l => match a.one with
    | true => allOne l
    | false => false

theorem allOne_spec : ∀ {l : List AV}, allOne l = true → ∀ x ∈ l, x.one = true
  | [], _, x, hx => by cases hx
  | a :: l, h, x, hx => by
    simp only [allOne] at h
    split at h
    · rename_i ha
      rcases List.mem_cons.1 hx with rfl | hx
      · exact ha
      · exact allOne_spec h x hx
    · cases h

def stA (e : AX → AV) (H : AHeap) (n : Nat) (a x : AX) : Option AHeap :=
  match e a with
  | .ptr id off => match PT.get id H with
    | some (.cells false l) => match (e x).flat with
      | true =>
        if lenL (e x).cells = n then
          match allOne (e x).cells with
          | true => match putL off (e x).cells l with
            | some l' => some (PT.put id (some (.cells false l')) H)
            | none => none
          | false => none
        else none
      | false => none
    | _ => none
  | _ => none

/-- The cells of what is appended, and how many elements they are. -/
def srcA (n : Nat) (H : AHeap) (x : AV) : Option (Nat × List AV) :=
  match x with
  | .nilsl => some (0, [])
  | .sl id off len _ _ es => if es = n then match PT.get id H with
    | some (.cells _ l) => match takeN (len * n) (l.drop off) with
      | some r => some (len, r)
      | none => none
    | _ => none
    else none
  | _ => none

def apA (H : AHeap) (nx : Pos) (n b : Nat) (s x : AV) : Option (AV × AHeap × Pos) :=
  match srcA n H x with
  | some (m, news) => match allOne news with
    | true => match s with
      | .nilsl =>
        if m = 0 then some (.nilsl, H, nx)
        else if m * b ≤ 140737488355328 ∧ m ≤ 4611686018427387904 then frcN m fun m => some (.sl nx 0 m false m n, PT.put nx (some (.cells false news)) H, nx.succ)
        else none
      | .sl id off len ex cap es =>
        if es = n ∧ len ≤ cap then
          if m = 0 then some (.sl id off len ex cap es, H, nx)
          else if len + m ≤ cap then
            match PT.get id H with
            | some (.cells false l) => match putL (off + len * n) news l with
              | some l' => frcN (len + m) fun k => some (.sl id off k ex cap es, PT.put id (some (.cells false l')) H, nx)
              | none => none
            | _ => none
          else if (len + m) * b ≤ 140737488355328 ∧ len + m ≤ 4611686018427387904 then
            match PT.get id H with
            | some (.cells ro l) => match takeN (len * n) (l.drop off) with
              | some olds => match ex with
                | true => frcN (len + m) fun k => some (.sl nx 0 k false k n, PT.put nx (some (.cells false (olds ++ news))) H, nx.succ)
                | false => match ro with
                  | false => frcN (len + m) fun k => some (.sl nx 0 k false k n, PT.put nx (some (.cells false (olds ++ news))) (PT.put id none H), nx.succ)
                  | true => none
              | none => none
            | _ => none
          else none
        else none
      | _ => none
    | false => none
  | none => none

section
variable {P : Program} {ρ : Env} {gs : List Nat} {e : AX → AV} {η : Operand → Value} {B : Base} {H : AHeap} {w : World}

theorem cop_store {o : Oper} {n : Nat} {a x : AX} (hc : cop P gs o = some (.store n a x)) : ∃ t a' x', o.op = .store t a' x' ∧ szOf P t = some n ∧ cox gs a' = some a ∧ cox gs x' = some x := by
  have ht := cop_tag hc
  cases ho : o.op <;> rw [ho] at ht <;> simp [Op.tags, AOp.tag] at ht
  rename_i t a' x'
  simp only [cop, ho] at hc
  split at hc
  · rename_i n' hn
    obtain ⟨p, q, h1, h2, hq⟩ := m2_some hc
    cases hq
    exact ⟨t, a', x', rfl, hn, h1, h2⟩
  · cases hc

theorem st_sound {o : Oper} {n : Nat} {a x : AX} {H' : AHeap} (nx : Pos) (hS : Sim B ρ H w) (hE : Evs gs ρ e η) (hc : cop P gs o = some (.store n a x)) (hp : stA e H n a x = some H') :
    ∃ w', (execOp η o).run P w = .ok .skip w' ∧ Sim B ρ H' w' ∧ Step ρ H nx w ρ H' nx w' := by
  obtain ⟨t, a', x', ho, hn, h1, h2⟩ := cop_store hc
  have ra := hE _ _ h1
  have rx := hE _ _ h2
  unfold stA at hp
  split at hp
  · rename_i id off hex
    rw [hex] at ra
    simp only [Rel] at ra
    obtain ⟨b, o', m, r1, r2⟩ := ra
    split at hp
    · rename_i l hg
      split at hp
      · rename_i hfl
        split at hp
        · rename_i hlen
          split at hp
          · rename_i hone
            split at hp
            · rename_i l' hl'
              simp at hp; subst hp
              have hr := rx.cells hfl
              obtain ⟨s1, s2, s3⟩ := hS.store hg r1 hl' hr (allOne_spec hone) (P := P) nx
              refine ⟨_, ?_, s2, s3⟩
              have hsz : (η x').cells.size = n := by
                have := hr.length
                rw [lenL_eq] at hlen
                simp at this; omega
              simp [execOp, ho, Instr.storeAt, r2, Instr.sureAddr, storeVar, hsz, run_sizeOf w hn, s1]
            · cases hp
          · cases hp
        · cases hp
      · cases hp
    · cases hp
  · cases hp

/-- A block goes over into a new name, while cells behind it are written. -/
theorem Sim.move (hS : Sim B ρ H w) {id nx : Pos} {l l2 : List AV} {cs : List Value} {b o m p q : Nat} (hg : PT.get id H = some (.cells false l)) (r : ρ id = some (b, o, m)) (hn : ρ nx = none)
    (hp : p + cs.length ≤ m) (hq : q ≤ m) (hone : ∀ c ∈ cs, c.oneCell' = true) (hlen : q + l2.length ≤ m)
    (hl2 : ∀ i v, l2[i]? = some v → ∃ c, (setRow w b (o + p) cs).cell? ⟨b, o + q + i, none⟩ = some c ∧ Rel ρ v c) {P : Program} :
    (storeCells ⟨b, o + p, none⟩ cs).run P w = .ok () (setRow w b (o + p) cs) ∧
    Sim B (ρ.set nx (b, o + q, m - q)) (PT.put nx (some (.cells false l2)) (PT.put id none H)) (setRow w b (o + p) cs) ∧
      Step ρ H nx w (ρ.set nx (b, o + q, m - q)) (PT.put nx (some (.cells false l2)) (PT.put id none H)) nx.succ (setRow w b (o + p) cs) := by
  obtain ⟨b', o', m', e1, e2, e3, e4, e40, e41⟩ := hS.cells id false l hg
  rw [r] at e1; cases e1
  have hle : ρ.le (ρ.set nx (b, o + q, m - q)) := Env.set_le hn
  have hsome : ∀ j, j < cs.length → (w.cell? ⟨b, o + p + 0 + j, none⟩).isSome = true := by
    intro j hj
    rw [show o + p + 0 + j = o + (p + j) by omega]; exact (e41 rfl _ (by omega)).1
  have hfro : ∀ j, j < cs.length → w.frozen? ⟨b, o + p + 0 + j, none⟩ = false := by
    intro j hj
    rw [show o + p + 0 + j = o + (p + j) by omega]; exact (e41 rfl _ (by omega)).2
  have hown : Own ρ H b := ⟨id, _, _, hg, rfl, r⟩
  have hnid : nx ≠ id := fun q => by rw [q, r] at hn; cases hn
  have other : ∀ {j : Pos} {k : Blk} {b2 : Nat} {o2 : Nat × Nat}, PT.get j H = some k → j ≠ id → ρ j = some (b2, o2) → b2 ≠ b := by
    intro j k b2 o2 hj hne hr hb
    subst hb
    exact hS.inj j id _ _ _ _ _ hj hg hne hr r
  have hheap : ∀ k, k ≠ b → (setRow w b (o + p) cs).heap[k]? = w.heap[k]? := fun k hk => setRow_other b cs _ w k hk
  have hcell : ∀ {b2 : Nat}, b2 ≠ b → ∀ i, (setRow w b (o + p) cs).cell? ⟨b2, i, none⟩ = w.cell? ⟨b2, i, none⟩ := fun hb i => by
    unfold World.cell?
    rw [hheap _ hb]
  refine ⟨?_, ?_, ?_⟩
  · have := run_storeCells (P := P) b (o + p) cs 0 w hsome hfro hone
    simpa using this
  · refine ⟨by rw [setRow_size]; exact hS.base, fun j ro l3 e5 => ?_, fun j k e5 hk => ?_, fun i j x y b2 o2 p2 hi hj hne r1 r2 => ?_, fun b2 hb2 => by rw [hheap _ (fun q => by subst q; have := e3.own rfl; omega)]; exact hS.low b2 hb2⟩
    · by_cases hj : j = nx
      · subst hj
        rw [PT.get_put_same] at e5; cases e5
        refine ⟨b, o + q, m - q, Env.set_same _ _ _, by rw [setRow_size]; exact e2, e3, fun i v hv => ?_, by omega, fun _ i hi => ?_⟩
        · obtain ⟨c, hc, hr⟩ := hl2 i v hv
          exact ⟨c, hc, hr.mono hle⟩
        · rw [setRow_frozen, setRow_cell b cs (o + p) w (o + q + i) (fun j hj => by simpa using hsome j hj), show o + q + i = o + (q + i) by omega]
          refine ⟨?_, (e41 rfl (q + i) (by omega)).2⟩
          split
          · rw [List.getElem?_eq_getElem (by omega)]; rfl
          · exact (e41 rfl (q + i) (by omega)).1
      · rw [PT.get_put_other _ _ _ _ hj] at e5
        by_cases hji : j = id
        · subst hji; rw [PT.get_put_same] at e5; cases e5
        · rw [PT.get_put_other _ _ _ _ hji] at e5
          obtain ⟨b2, o2, m2, q1, q2, q3, q4, q5, q6⟩ := hS.cells j ro l3 e5
          have hb := other e5 hji q1
          refine ⟨b2, o2, m2, hle _ _ q1, by rw [setRow_size]; exact q2, q3, fun i v hv => ?_, q5, fun hro i hi => ?_⟩
          · rw [hcell hb]
            obtain ⟨c, hc, hr⟩ := q4 i v hv
            exact ⟨c, hc, hr.mono hle⟩
          · rw [hcell hb, setRow_frozen]; exact q6 hro i hi
    · by_cases hj : j = nx
      · subst hj; rw [PT.get_put_same] at e5; cases e5; cases hk
      · rw [PT.get_put_other _ _ _ _ hj] at e5
        by_cases hji : j = id
        · subst hji; rw [PT.get_put_same] at e5; cases e5
        · rw [PT.get_put_other _ _ _ _ hji] at e5
          obtain ⟨b2, m2, ob, q1, q2, q3, q4⟩ := hS.objs j k e5 hk
          have hb := other e5 hji q1
          exact ⟨b2, m2, ob, hle _ _ q1, q2, by rw [hheap _ hb]; exact q3, q4.mono hle⟩
    · have f : ∀ (k : Pos) (z : Blk), PT.get k (PT.put nx (some (.cells false l2)) (PT.put id none H)) = some z → k = nx ∨ (k ≠ nx ∧ k ≠ id ∧ PT.get k H = some z) := by
        intro k z hz
        by_cases hk : k = nx
        · exact .inl hk
        · rw [PT.get_put_other _ _ _ _ hk] at hz
          by_cases hk2 : k = id
          · subst hk2; rw [PT.get_put_same] at hz; cases hz
          · rw [PT.get_put_other _ _ _ _ hk2] at hz; exact .inr ⟨hk, hk2, hz⟩
      rcases f i x hi with rfl | ⟨i1, i2, i3⟩
      · rcases f j y hj with rfl | ⟨j1, j2, j3⟩
        · exact hne rfl
        · rw [Env.set_same] at r1; cases r1
          rw [Env.set_other _ _ j1] at r2
          exact other j3 j2 r2 rfl
      · rw [Env.set_other _ _ i1] at r1
        rcases f j y hj with rfl | ⟨j1, j2, j3⟩
        · rw [Env.set_same] at r2; cases r2
          exact other i3 i2 r1 rfl
        · rw [Env.set_other _ _ j1] at r2
          exact hS.inj i j x y _ _ _ i3 j3 hne r1 r2
  · obtain ⟨s1, s2, s3⟩ := setRow_same b cs (o + p) w
    refine ⟨hle, fun k q1 q2 => ?_, by rw [setRow_size]; exact Nat.le_refl _, s1, s2, s3, fun k hk ho => ?_, fun k ho hk => ?_, fun k z hz => ?_⟩
    · by_cases hk : k = nx
      · subst hk; rw [Pos.toNat_succ]; omega
      · rw [Env.set_other _ _ hk] at q2; exact absurd q1 q2
    · exact hheap k (fun q => by subst q; exact ho hown)
    · obtain ⟨j, k', o2, q1, q2, q3⟩ := ho
      by_cases hj : j = nx
      · subst hj; rw [Env.set_same] at q3; cases q3; exact hown
      · rw [PT.get_put_other _ _ _ _ hj] at q1
        rw [Env.set_other _ _ hj] at q3
        by_cases hji : j = id
        · subst hji; rw [PT.get_put_same] at q1; cases q1
        · rw [PT.get_put_other _ _ _ _ hji] at q1; exact ⟨j, k', o2, q1, q2, q3⟩
    · by_cases hk : k = nx
      · subst hk; exact .inr ⟨Nat.le_refl _, by rw [Pos.toNat_succ]; omega⟩
      · rw [PT.get_put_other _ _ _ _ hk] at hz
        by_cases hki : k = id
        · subst hki; rw [PT.get_put_same] at hz; cases hz
        · rw [PT.get_put_other _ _ _ _ hki] at hz; exact .inl ⟨_, hz⟩
end
end Go.Abs
