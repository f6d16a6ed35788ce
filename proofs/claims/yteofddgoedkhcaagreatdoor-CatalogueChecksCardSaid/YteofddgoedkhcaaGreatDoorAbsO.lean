/- The abstract interpreter, part O: blocks that are no cells; operations in order; the ends of functions. -/
import Derived.Test.YteofddgoedkhcaaGreatDoorAbsN
import Derived.RangeFuncRecord
namespace Go.Abs
section
variable {P : Program} {gs : List Nat} {B : Base} {ρ : Env} {H : AHeap} {w : World}

theorem putObj_other (w : World) (b : Nat) (o : Obj) {k : Nat} (h : k ≠ b) : (w.putObj b o).heap[k]? = w.heap[k]? := by
  simp only [World.putObj, Array.getElem?_setIfInBounds]
  rw [if_neg (Ne.symm h)]

theorem putObj_size (w : World) (b : Nat) (o : Obj) : (w.putObj b o).heap.size = w.heap.size := by simp [World.putObj]

theorem putObj_same (w : World) (b : Nat) (o : Obj) (h : b < w.heap.size) : (w.putObj b o).heap[b]? = some o := by
  simp [World.putObj, h]

/-- A block that is no cells is written, or forgotten. -/
theorem Sim.putObj (h : Sim B ρ H w) {id : Pos} {k0 : Blk} {k : Option Blk} {b m : Nat} {o : Obj} (hg : PT.get id H = some k0) (h0 : k0.isCells = false) (r : ρ id = some (b, 0, m))
    (hk : ∀ k', k = some k' → k'.isCells = false ∧ ObjOK B ρ k' o) (nx : Pos) : Sim B ρ (PT.put id k H) (w.putObj b o) ∧ Step ρ H nx w ρ (PT.put id k H) nx (w.putObj b o) := by
  obtain ⟨b', m', ob, e1, e2, e3, e4⟩ := h.objs id k0 hg h0
  rw [r] at e1; cases e1
  have hb : b < w.heap.size := h.blk_lt hg r
  have hown : Own ρ H b := ⟨id, k0, _, hg, (by cases k0 <;> first | rfl | cases h0), r⟩
  have other : ∀ {j : Pos} {x : Blk} {b2 : Nat} {o2 : Nat × Nat}, PT.get j H = some x → j ≠ id → ρ j = some (b2, o2) → b2 ≠ b := by
    intro j x b2 o2 hj hne hr hbb
    subst hbb
    exact h.inj j id _ _ _ _ _ hj hg hne hr r
  have hcell : ∀ {b2 : Nat}, b2 ≠ b → ∀ i, (w.putObj b o).cell? ⟨b2, i, none⟩ = w.cell? ⟨b2, i, none⟩ := fun hb i => by
    unfold World.cell?
    rw [putObj_other _ _ _ hb]
  have hfro : ∀ {b2 : Nat}, b2 ≠ b → ∀ i, (w.putObj b o).frozen? ⟨b2, i, none⟩ = w.frozen? ⟨b2, i, none⟩ := fun hb i => by
    unfold World.frozen?
    rw [putObj_other _ _ _ hb]
  refine ⟨⟨by rw [putObj_size]; exact h.base, fun j ro l e5 => ?_, fun j x e5 hx => ?_, fun i j x y b2 o2 p2 hi hj hne r1 r2 => ?_, fun b2 hb2 => by rw [putObj_other _ _ _ (fun q => by subst q; omega)]; exact h.low b2 hb2⟩, ?_⟩
  · by_cases hj : j = id
    · subst hj; rw [PT.get_put_same] at e5
      have := (hk _ e5).1
      cases this
    · rw [PT.get_put_other _ _ _ _ hj] at e5
      obtain ⟨b2, o2, m2, q1, q2, q3, q4, q5, q6⟩ := h.cells j ro l e5
      have hb2 := other e5 hj q1
      refine ⟨b2, o2, m2, q1, by rw [putObj_size]; exact q2, q3, fun i v hv => ?_, q5, fun hro i hi => ?_⟩
      · rw [hcell hb2]; exact q4 i v hv
      · rw [hcell hb2, hfro hb2]; exact q6 hro i hi
  · by_cases hj : j = id
    · subst hj; rw [PT.get_put_same] at e5
      exact ⟨b, m, o, r, e2, putObj_same _ _ _ hb, (hk _ e5).2⟩
    · rw [PT.get_put_other _ _ _ _ hj] at e5
      obtain ⟨b2, m2, ob2, q1, q2, q3, q4⟩ := h.objs j x e5 hx
      exact ⟨b2, m2, ob2, q1, q2, by rw [putObj_other _ _ _ (other e5 hj q1)]; exact q3, q4⟩
  · have f : ∀ (m : Pos) (z : Blk), PT.get m (PT.put id k H) = some z → ∃ z', PT.get m H = some z' := by
      intro m z hz
      by_cases hm : m = id
      · subst hm; exact ⟨_, hg⟩
      · rw [PT.get_put_other _ _ _ _ hm] at hz; exact ⟨_, hz⟩
    obtain ⟨x', hx'⟩ := f i x hi
    obtain ⟨y', hy'⟩ := f j y hj
    exact h.inj i j x' y' b2 o2 p2 hx' hy' hne r1 r2
  · refine ⟨Env.le_refl _, fun _ q1 q2 => absurd q1 q2, by rw [putObj_size]; exact Nat.le_refl _, rfl, rfl, rfl, fun j hj ho => ?_, fun j ho hj => ?_, fun j z hz => ?_⟩
    · exact putObj_other _ _ _ (fun q => by subst q; exact ho hown)
    · obtain ⟨i, x, o', q1, q2, q3⟩ := ho
      by_cases hi : i = id
      · subst hi; rw [r] at q3; cases q3; exact hown
      · rw [PT.get_put_other _ _ _ _ hi] at q1; exact ⟨i, x, o', q1, q2, q3⟩
    · by_cases hji : j = id
      · subst hji; exact .inl ⟨_, hg⟩
      · rw [PT.get_put_other _ _ _ _ hji] at hz; exact .inl ⟨_, hz⟩

/-- A new block that is no cells. -/
theorem Sim.allocObj (h : Sim B ρ H w) {nx : Pos} (hn : ρ nx = none) (k : Blk) (o : Obj) (hk : k.isCells = false) (ho : ObjOK B (ρ.set nx (w.heap.size, 0, 0)) k o) :
    Sim B (ρ.set nx (w.heap.size, 0, 0)) (PT.put nx (some k) H) (w.alloc o) ∧ Step ρ H nx w (ρ.set nx (w.heap.size, 0, 0)) (PT.put nx (some k) H) nx.succ (w.alloc o) := by
  have hle : ρ.le (ρ.set nx (w.heap.size, 0, 0)) := Env.set_le hn
  have hm := (h.more o).env hle
  have hnew : (w.alloc o).heap[w.heap.size]? = some o := by simp [World.alloc, -World.alloc_eq]
  refine ⟨⟨hm.base, fun j ro l e5 => ?_, fun j x e5 hx => ?_, fun i j x y b2 o2 p2 hi hj hne r1 r2 => ?_, hm.low⟩, Step.alloc hn k o (0, 0)⟩
  · by_cases hj : j = nx
    · subst hj; rw [PT.get_put_same] at e5; cases e5; cases hk
    · rw [PT.get_put_other _ _ _ _ hj] at e5; exact hm.cells j ro l e5
  · by_cases hj : j = nx
    · subst hj; rw [PT.get_put_same] at e5; cases e5
      exact ⟨_, _, o, Env.set_same _ _ _, h.base, hnew, ho⟩
    · rw [PT.get_put_other _ _ _ _ hj] at e5; exact hm.objs j x e5 hx
  · by_cases hi' : i = nx
    · subst hi'
      rw [Env.set_same] at r1; cases r1
      have hj' : j ≠ i := fun q => hne q.symm
      rw [PT.get_put_other _ _ _ _ hj'] at hj
      rw [Env.set_other _ _ hj'] at r2
      have := h.blk_lt hj r2
      omega
    · rw [PT.get_put_other _ _ _ _ hi'] at hi
      rw [Env.set_other _ _ hi'] at r1
      by_cases hj' : j = nx
      · subst hj'
        rw [Env.set_same] at r2; cases r2
        have := h.blk_lt hi r1
        omega
      · rw [PT.get_put_other _ _ _ _ hj'] at hj
        rw [Env.set_other _ _ hj'] at r2
        exact h.inj i j x y _ _ _ hi hj hne r1 r2

/-! ### Temporaries -/
theorem RelA.put {T : PT AV} {tmps : Array Value} {v : AV} {cv : Value} {d : Nat} (h : RelA ρ T tmps) (hv : Rel ρ v cv) (hd : d < tmps.size) : RelA ρ (PT.put (Pos.ofNat d) (some v) T) (tmps.setIfInBounds d cv) := by
  intro t
  by_cases ht : t = d
  · subst ht
    simp only [evT, PT.get_put_same]
    rw [Array.getD_eq_getD_getElem?, Array.getElem?_setIfInBounds_self_of_lt hd]
    exact hv
  · have hne : Pos.ofNat t ≠ Pos.ofNat d := fun q => ht (Pos.ofNat_inj q)
    have := h t
    simp only [evT, PT.get_put_other _ _ _ _ hne] at this ⊢
    rw [Array.getD_eq_getD_getElem?, Array.getElem?_setIfInBounds_ne (Ne.symm ht), ← Array.getD_eq_getD_getElem?]
    exact this

theorem rel_undef : Rel ρ undefA undef := by simp only [undefA, Rel]; exact ⟨#[], rfl, RelL.nil⟩

/-- What is made of an operation in its place. -/
structure OperOK (P : Program) (gs : List Nat) (N : Nat) (ops : Array Oper) (o : Oper) (ao : AOper) : Prop where
  op : cop P gs o = some ao.op
  dst : (o.dst = none ∧ ao.dst = none) ∨ ∃ d, o.dst = some d ∧ d < N ∧ ao.dst = some (Pos.ofNat d)
  guard : (o.guard = none ∧ ao.guard = none) ∨ ∃ j want d, o.guard = some (j, want) ∧ (ops[j]?).bind (·.dst) = some d ∧ ao.guard = some (Pos.ofNat d, want)

theorem coper_ok {N : Nat} {ops : Array Oper} {o : Oper} {ao : AOper} (h : coper P gs N ops o = some ao) : OperOK P gs N ops o ao := by
  unfold coper at h
  split at h
  · rename_i d g op h1 h2 h3
    simp at h; subst h
    refine ⟨h3, ?_, ?_⟩
    · unfold cdst at h1
      split at h1
      · rename_i hd
        simp at h1; subst h1
        exact .inl ⟨hd, rfl⟩
      · rename_i d' hd
        split at h1
        · rename_i hlt
          simp at h1; subst h1
          exact .inr ⟨d', hd, hlt, rfl⟩
        · cases h1
    · unfold cguard at h2
      split at h2
      · rename_i hg
        simp at h2; subst h2
        exact .inl ⟨hg, rfl⟩
      · rename_i j want hg
        split at h2
        · rename_i d' hd
          simp at h2; subst h2
          exact .inr ⟨j, want, d', hg, hd, rfl⟩
        · cases h2
  · cases h

theorem put_rel {N : Nat} {ops : Array Oper} {o : Oper} {ao : AOper} (ho : OperOK P gs N ops o ao) {T : PT AV} {a : Act} {v : AV} {cv : Value} (hT : RelA ρ T a.tmps) (hv : Rel ρ v cv) (hN : N ≤ a.tmps.size) :
    RelA ρ (putT ao.dst v T) (a.put o.dst cv).tmps ∧ (a.put o.dst cv).tmps.size = a.tmps.size ∧ (a.put o.dst cv).defers = a.defers := by
  rcases ho.dst with ⟨h1, h2⟩ | ⟨d, h1, h2, h3⟩
  · rw [h1, h2]; exact ⟨hT, rfl, rfl⟩
  · rw [h1, h3]
    refine ⟨hT.put hv (Nat.lt_of_lt_of_le h2 hN), ?_, rfl⟩
    simp [Act.put]

theorem want_ok {N : Nat} {ops : Array Oper} {o : Oper} {ao : AOper} (ho : OperOK P gs N ops o ao) {T : PT AV} {tmps : Array Value} {b : Bool} (hT : RelA ρ T tmps) (h : wantA T ao.guard = some b) :
    Region.wanted o (yielded ops tmps) = b := by
  rcases ho.guard with ⟨h1, h2⟩ | ⟨j, want, d, h1, h2, h3⟩
  · rw [h2] at h
    simp only [wantA, Option.some.injEq] at h; subst h
    simp [Region.wanted, h1]
  · rw [h3] at h
    simp only [wantA] at h
    have hr := hT d
    simp only [Region.wanted, h1, yielded, h2, Option.bind_some]
    rw [Array.getD_eq_getD_getElem?] at hr
    split at h
    · rename_i q hq
      simp at h
      simp only [evT, hq, Rel] at hr
      cases hg : tmps[d]? with
      | none => rw [hg] at hr; simp [undef] at hr
      | some u => rw [hg] at hr; simp at hr; subst hr; simp [h]
    · rename_i hq
      simp at h; subst h
      simp only [evT, hq, Rel] at hr
      obtain ⟨cs, hcs, _⟩ := hr
      cases hg : tmps[d]? with
      | none => rfl
      | some u => rw [hg] at hcs; simp at hcs; subst hcs; rfl
    · rename_i hq
      simp at h; subst h
      simp only [evT, hq, Rel] at hr
      obtain ⟨cs, hcs, _⟩ := hr
      cases hg : tmps[d]? with
      | none => rfl
      | some u => rw [hg] at hcs; simp at hcs; subst hcs; rfl
    · cases h

/-! ### Operations in order -/
theorem seq_sound {cf : CallR} {yf : YieldR} (hcf : CallsOK P gs B cf) (hyf : YieldsOK P gs B yf) {N : Nat} {ops : Array Oper} : ∀ (l : List Nat) (os : List Oper) (aos : List AOper) (T : PT AV) (H : AHeap) (nx : Pos) (T' : PT AV) (H' : AHeap) (nx' : Pos),
    (∀ i : Nat, (l.map fun i => ops[i]?)[i]? = (os.map some)[i]?) → copers P gs N ops os = some aos → seqA cf yf aos T H nx = some (T', H', nx') →
    nx.toNat ≤ nx'.toNat ∧ ∀ (ρ : Env) (w : World) (a : Act), Sim B ρ H w → Fresh ρ nx nx' → Glob gs ρ → RelA ρ T a.tmps → N ≤ a.tmps.size → ∀ (n : Nat) (r : Option Nat) (Q : Exit → Act → World → Prop),
      (∀ ρ' a' w', Sim B ρ' H' w' → Step ρ H nx w ρ' H' nx' w' → RelA ρ' T' a'.tmps → a'.tmps.size = a.tmps.size → a'.defers = a.defers → Q .normal a' w') → wpOpsIn (Wd r) n P ops Q l a w
  | l, [], aos, T, H, nx, T', H', nx', hl, hc, h => by
    simp [copers] at hc; subst hc
    simp [seqA] at h
    obtain ⟨rfl, rfl, rfl⟩ := h
    have : l = [] := by
      cases l with
      | nil => rfl
      | cons x l => have := hl 0; simp at this
    subst this
    exact ⟨Nat.le_refl _, fun ρ w a hS _ _ hT hN n r Q hQ => hQ ρ a w hS (Step.refl _ _ _ _) hT rfl rfl⟩
  | l, o :: os, aos, T, H, nx, T', H', nx', hl, hc, h => by
    obtain ⟨i, l, rfl⟩ : ∃ i l', l = i :: l' := by
      cases l with
      | nil => have := hl 0; simp at this
      | cons x l => exact ⟨x, l, rfl⟩
    have hi : ops[i]? = some o := by have := hl 0; simpa using this
    have hl' : ∀ j : Nat, (l.map fun i => ops[i]?)[j]? = (os.map some)[j]? := fun j => by have := hl (j + 1); simpa using this
    simp only [copers] at hc
    split at hc
    · rename_i ao aos' h1 h2
      simp at hc; subst hc
      have hok := coper_ok h1
      simp only [seqA] at h
      split at h
      · rename_i hw
        split at h
        · rename_i v H1 nx1 hop
          have q1 := op_sound hcf hyf hok.op hop
          have q2 := seq_sound hcf hyf l os aos' _ _ _ _ _ _ hl' h2 h
          refine ⟨by omega, fun ρ w a hS hF hG hT hN n r Q hQ => ?_⟩
          simp only [wpOpsIn, hi]
          rw [if_pos (want_ok hok hT hw)]
          refine q1.2 ρ w a hS (hF.fst q2.1) hG hT n r _ Q fun ρ1 v1 w1 s1 st1 hv => ?_
          obtain ⟨p1, p2, p3⟩ := put_rel hok (hT.mono st1.ext) hv hN
          exact q2.2 ρ1 w1 _ s1 (hF.snd st1 q1.1) (hG.mono st1.ext) p1 (by rw [p2]; exact hN) n r Q fun ρ2 a2 w2 s2 st2 t2 n2 d2 =>
            hQ ρ2 a2 w2 s2 (st1.trans st2 q1.1 q2.1) t2 (n2.trans p2) (d2.trans p3)
        · cases h
      · rename_i hw
        have q2 := seq_sound hcf hyf l os aos' _ _ _ _ _ _ hl' h2 h
        refine ⟨q2.1, fun ρ w a hS hF hG hT hN n r Q hQ => ?_⟩
        simp only [wpOpsIn, hi]
        rw [if_neg (by rw [want_ok hok hT hw]; simp)]
        obtain ⟨p1, p2, p3⟩ := put_rel hok hT rel_undef hN
        exact ⟨fun _ _ => trivial, q2.2 ρ w _ hS hF hG p1 (by rw [p2]; exact hN) n r Q fun ρ2 a2 w2 s2 st2 t2 n2 d2 => hQ ρ2 a2 w2 s2 st2 t2 (n2.trans p2) (d2.trans p3)⟩
      · cases h
    · cases hc

theorem region_sound {cf : CallR} {yf : YieldR} (hcf : CallsOK P gs B cf) (hyf : YieldsOK P gs B yf) {N : Nat} {ops : Array Oper} {aos : List AOper} {T T' : PT AV} {H H' : AHeap} {nx nx' : Pos} (rid : Nat)
    (hc : copers P gs N ops ops.toList = some aos) (h : seqA cf yf aos T H nx = some (T', H', nx')) :
    nx.toNat ≤ nx'.toNat ∧ ∀ (ρ : Env) (w : World) (a : Act), Sim B ρ H w → Fresh ρ nx nx' → Glob gs ρ → RelA ρ T a.tmps → N ≤ a.tmps.size → ∀ (n : Nat) (r : Option Nat) (Q : Exit → Act → World → Prop),
      (∀ ρ' a' w', Sim B ρ' H' w' → Step ρ H nx w ρ' H' nx' w' → RelA ρ' T' a'.tmps → a'.tmps.size = a.tmps.size → a'.defers = a.defers → Q .normal a' w') → (Code.region rid ops false).wpIn (Wd r) n P Q a w := by
  have hl : ∀ i : Nat, ((List.range ops.size).map fun i => ops[i]?)[i]? = (ops.toList.map some)[i]? := by
    intro i
    simp only [List.getElem?_map, Array.getElem?_toList]
    by_cases hi : i < ops.size
    · rw [List.getElem?_range hi]
      simp [hi]
    · rw [List.getElem?_eq_none (by simp; omega), Array.getElem?_eq_none (by omega)]; rfl
  have q := seq_sound hcf hyf _ _ _ _ _ _ _ _ _ hl hc h
  exact ⟨q.1, fun ρ w a hS hF hG hT hN n r Q hQ => wpIn_region (q.2 ρ w a hS hF hG hT hN n r Q hQ)⟩
end
end Go.Abs
