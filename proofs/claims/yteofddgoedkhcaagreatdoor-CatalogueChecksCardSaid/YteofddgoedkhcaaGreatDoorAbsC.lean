/- The abstract interpreter, part C: new blocks, loads and stores, on the world and on the abstract heap. -/
import Derived.Test.YteofddgoedkhcaaGreatDoorAbsB
namespace Go.Abs

def Env.set (ρ : Env) (id : Pos) (x : Nat × Nat × Nat) : Env := fun j => if j.toNat = id.toNat then some x else ρ j

theorem Env.set_same (ρ : Env) (id : Pos) (x : Nat × Nat × Nat) : ρ.set id x id = some x := by simp [Env.set]
theorem Env.set_other (ρ : Env) {id j : Pos} (x : Nat × Nat × Nat) (h : j ≠ id) : ρ.set id x j = ρ j := by
  unfold Env.set
  rw [if_neg (fun e => h (Pos.toNat_inj e))]
theorem Env.set_le {ρ : Env} {id : Pos} {x : Nat × Nat × Nat} (h : ρ id = none) : ρ.le (ρ.set id x) := fun j y e => by
  have hj : j ≠ id := fun k => by subst k; rw [h] at e; cases e
  rw [Env.set_other _ _ hj, e]

theorem Sim.drew {B : Base} {ρ : Env} {H : AHeap} {w : World} (h : Sim B ρ H w) : Sim B ρ H w.drew := ⟨h.base, h.cells, h.objs, h.inj, h.low⟩

theorem Step.drew {ρ ρ' : Env} {H H' : AHeap} {nx nx' : Pos} {w w' : World} (h : Step ρ H nx w ρ' H' nx' w') : Step ρ H nx w ρ' H' nx' w'.drew :=
  ⟨h.ext, h.fresh, h.size, h.os, h.tape, h.output, h.frame, h.orig, h.dom⟩

theorem Step.of_drew {ρ ρ' : Env} {H H' : AHeap} {nx nx' : Pos} {w w' : World} (h : Step ρ H nx w.drew ρ' H' nx' w') : Step ρ H nx w ρ' H' nx' w' :=
  ⟨h.ext, h.fresh, h.size, h.os, h.tape, h.output, h.frame, h.orig, h.dom⟩

theorem heap_alloc_lt (w : World) (o : Obj) {k : Nat} (h : k < w.heap.size) : (w.alloc o).heap[k]? = w.heap[k]? := by
  simp only [World.alloc, Array.getElem?_push]
  rw [if_neg (by omega)]

theorem frozen?_alloc_lt (w : World) (o : Obj) (a : Addr) (h : a.block < w.heap.size) : (w.alloc o).frozen? a = w.frozen? a :=
  World.frozen?_alloc_old w o a (Nat.ne_of_lt h)

/-- A world with one more block: the abstract heap need not speak of it. -/
theorem Sim.more {B : Base} {ρ : Env} {H : AHeap} {w : World} (h : Sim B ρ H w) (o : Obj) : Sim B ρ H (w.alloc o) where
  base := by simp; have := h.base; omega
  cells := fun id ro l e => by
    obtain ⟨b, of, m, e1, e2, e3, e4, e5, e6⟩ := h.cells id ro l e
    refine ⟨b, of, m, e1, by simp; omega, e3, fun i v hv => ?_, e5, fun hro i hi => ?_⟩
    · rw [World.cell?_alloc_lt _ _ _ (by exact e2)]; exact e4 i v hv
    · rw [World.cell?_alloc_lt _ _ _ (by exact e2), frozen?_alloc_lt _ _ _ (by exact e2)]; exact e6 hro i hi
  objs := fun id k e hk => by
    obtain ⟨b, m, ob, e1, e2, e3, e4⟩ := h.objs id k e hk
    refine ⟨b, m, ob, e1, e2, ?_, e4⟩
    have hb : b < w.heap.size := by
      rcases Nat.lt_or_ge b w.heap.size with q | q
      · exact q
      · rw [Array.getElem?_eq_none q] at e3; cases e3
    rw [heap_alloc_lt _ _ hb]; exact e3
  inj := h.inj
  low := fun b hb => by rw [heap_alloc_lt _ _ (Nat.lt_of_lt_of_le hb h.base)]; exact h.low b hb

theorem Sim.blk_lt {B : Base} {ρ : Env} {H : AHeap} {w : World} (h : Sim B ρ H w) {id : Pos} {k : Blk} {b : Nat} {o : Nat × Nat} (e : PT.get id H = some k) (r : ρ id = some (b, o)) : b < w.heap.size := by
  cases hk : k.isCells with
  | true =>
    cases k with
    | cells ro l =>
      obtain ⟨b', o', m', e1, e2, _⟩ := h.cells id ro l e
      rw [r] at e1; cases e1; exact e2
    | loop => cases hk
    | dfr => cases hk
  | false =>
    obtain ⟨b', m', ob, e1, _, e3, _⟩ := h.objs id k e hk
    rw [r] at e1; cases e1
    rcases Nat.lt_or_ge b w.heap.size with q | q
    · exact q
    · rw [Array.getElem?_eq_none q] at e3; cases e3

theorem Sim.mapped {B : Base} {ρ : Env} {H : AHeap} {w : World} (h : Sim B ρ H w) {id : Pos} {k : Blk} (e : PT.get id H = some k) : ∃ b o, ρ id = some (b, o) := by
  cases hk : k.isCells with
  | true =>
    cases k with
    | cells ro l =>
      obtain ⟨b', o', m', e1, e2, _⟩ := h.cells id ro l e
      exact ⟨_, _, e1⟩
    | loop => cases hk
    | dfr => cases hk
  | false =>
    obtain ⟨b', m', ob, e1, _, e3, _⟩ := h.objs id k e hk
    exact ⟨_, _, e1⟩

/-- The environment may grow at names that the heap does not use. -/
theorem Sim.env {B : Base} {ρ ρ' : Env} {H : AHeap} {w : World} (h : Sim B ρ H w) (hl : ρ.le ρ') : Sim B ρ' H w where
  base := h.base
  cells := fun id ro l e => by
    obtain ⟨b, of, m, e1, e2, e3, e4, e5, e6⟩ := h.cells id ro l e
    refine ⟨b, of, m, hl _ _ e1, e2, e3, fun i v hv => ?_, e5, e6⟩
    obtain ⟨c, hc, hr⟩ := e4 i v hv
    exact ⟨c, hc, hr.mono hl⟩
  objs := fun id k e hk => by
    obtain ⟨b, m, ob, e1, e2, e3, e4⟩ := h.objs id k e hk
    exact ⟨b, m, ob, hl _ _ e1, e2, e3, e4.mono hl⟩
  inj := fun i j x y b o p hi hj hne r1 r2 => by
    obtain ⟨bi, oi, ei⟩ := h.mapped hi
    obtain ⟨bj, oj, ej⟩ := h.mapped hj
    have a1 := hl _ _ ei; rw [r1] at a1; cases a1
    have a2 := hl _ _ ej; rw [r2] at a2; cases a2
    exact h.inj i j x y _ _ _ hi hj hne ei ej
  low := h.low

/-- A block is forgotten. -/
theorem Sim.drop {B : Base} {ρ : Env} {H : AHeap} {w : World} (h : Sim B ρ H w) (id : Pos) : Sim B ρ (PT.put id none H) w where
  base := h.base
  cells := fun j ro l e => by
    by_cases hj : j = id
    · subst hj; rw [PT.get_put_same] at e; cases e
    · rw [PT.get_put_other _ _ _ _ hj] at e; exact h.cells j ro l e
  objs := fun j k e hk => by
    by_cases hj : j = id
    · subst hj; rw [PT.get_put_same] at e; cases e
    · rw [PT.get_put_other _ _ _ _ hj] at e; exact h.objs j k e hk
  inj := fun i j x y b o p hi hj hne r1 r2 => by
    by_cases ei : i = id
    · subst ei; rw [PT.get_put_same] at hi; cases hi
    · by_cases ej : j = id
      · subst ej; rw [PT.get_put_same] at hj; cases hj
      · rw [PT.get_put_other _ _ _ _ ei] at hi; rw [PT.get_put_other _ _ _ _ ej] at hj
        exact h.inj i j x y b o p hi hj hne r1 r2
  low := h.low

theorem Own.of_drop {ρ : Env} {H : AHeap} {id : Pos} {b : Nat} (h : Own ρ (PT.put id none H) b) : Own ρ H b := by
  obtain ⟨j, k, o, e1, e2, e3⟩ := h
  by_cases hj : j = id
  · subst hj; rw [PT.get_put_same] at e1; cases e1
  · rw [PT.get_put_other _ _ _ _ hj] at e1; exact ⟨j, k, o, e1, e2, e3⟩

/-- A new block of cells, under a new name. -/
theorem Sim.alloc {B : Base} {ρ : Env} {H : AHeap} {w : World} {nx : Pos} {l : List AV} {cs : List Value} (h : Sim B ρ H w) (hn : ρ nx = none) (hl : RelL ρ l cs) (e : TypeId) (zs : List Value) (fr : Nat × Nat := (0, 0))
    (hfr : ∀ i, i < (cs ++ zs).length → (decide (fr.1 ≤ i) && decide (i < fr.2)) = false := by intro i _; simp) :
    Sim B (ρ.set nx (w.heap.size, 0, (cs ++ zs).length)) (PT.put nx (some (.cells false l)) H) (w.alloc (.cells (cs ++ zs).toArray e fr)) := by
  have hle : ρ.le (ρ.set nx (w.heap.size, 0, (cs ++ zs).length)) := Env.set_le hn
  have hm := (h.more (.cells (cs ++ zs).toArray e fr)).env hle
  have hcell : ∀ i, (w.alloc (.cells (cs ++ zs).toArray e fr)).cell? ⟨w.heap.size, i, none⟩ = (cs ++ zs)[i]? := fun i => by simp [World.alloc, World.cell?, -World.alloc_eq]
  have hfro : ∀ i, (w.alloc (.cells (cs ++ zs).toArray e fr)).frozen? ⟨w.heap.size, i, none⟩ = (decide (fr.1 ≤ i) && decide (i < fr.2)) := fun i => by simp [World.alloc, World.frozen?, -World.alloc_eq]
  refine ⟨hm.base, fun id ro l' e1 => ?_, fun id k e1 hk => ?_, fun i j x y b o p hi hj hne r1 r2 => ?_, hm.low⟩
  · by_cases hid : id = nx
    · subst hid
      rw [PT.get_put_same] at e1
      cases e1
      refine ⟨w.heap.size, 0, _, Env.set_same _ _ _, by simp, ⟨fun _ => h.base, fun q => by cases q⟩, fun i v hv => ?_, by rw [hl.length]; simp, fun _ i hi => ⟨?_, ?_⟩⟩
      · obtain ⟨c, hc, hr⟩ := hl.get hv
        refine ⟨c, ?_, hr.mono hle⟩
        rw [Nat.zero_add, hcell]
        have hi : i < cs.length := by
          rcases Nat.lt_or_ge i cs.length with q | q
          · exact q
          · rw [List.getElem?_eq_none q] at hc; cases hc
        simp [List.getElem?_append, hi]
        rw [List.getElem?_eq_getElem hi] at hc
        simpa using hc
      · rw [Nat.zero_add, hcell, List.getElem?_eq_getElem hi]; rfl
      · rw [Nat.zero_add, hfro]; exact hfr i hi
    · rw [PT.get_put_other _ _ _ _ hid] at e1
      exact hm.cells id ro l' e1
  · by_cases hid : id = nx
    · subst hid; rw [PT.get_put_same] at e1; cases e1; cases hk
    · rw [PT.get_put_other _ _ _ _ hid] at e1; exact hm.objs _ _ e1 hk
  · by_cases hi' : i = nx
    · subst hi'
      rw [Env.set_same] at r1; cases r1
      have hj' : j ≠ i := fun q => hne q.symm
      rw [PT.get_put_other _ _ _ _ hj'] at hj
      rw [Env.set_other _ _ hj'] at r2
      have := h.blk_lt hj r2
      omega
    · rw [PT.get_put_other _ _ _ _ hi'] at hi
      rw [Env.set_other _ _ hi'] at r1
      by_cases hj' : j = nx
      · subst hj'
        rw [Env.set_same] at r2; cases r2
        have := h.blk_lt hi r1
        omega
      · rw [PT.get_put_other _ _ _ _ hj'] at hj
        rw [Env.set_other _ _ hj'] at r2
        exact h.inj i j x y b o p hi hj hne r1 r2

theorem Step.alloc {ρ : Env} {H : AHeap} {w : World} {nx : Pos} (hn : ρ nx = none) (k : Blk) (o : Obj) (m : Nat × Nat) :
    Step ρ H nx w (ρ.set nx (w.heap.size, m)) (PT.put nx (some k) H) nx.succ (w.alloc o) where
  ext := Env.set_le hn
  fresh := fun id e1 e2 => by
    by_cases hid : id = nx
    · subst hid; rw [Pos.toNat_succ]; omega
    · rw [Env.set_other _ _ hid] at e2; exact absurd e1 e2
  size := by simp
  os := rfl
  tape := rfl
  output := rfl
  frame := fun b hb _ => heap_alloc_lt _ _ hb
  orig := fun b ho hb => by
    obtain ⟨id, k', o', e1, e2, e3⟩ := ho
    by_cases hid : id = nx
    · subst hid; rw [Env.set_same] at e3; cases e3; omega
    · rw [PT.get_put_other _ _ _ _ hid] at e1
      rw [Env.set_other _ _ hid] at e3
      exact ⟨id, k', o', e1, e2, e3⟩
  dom := fun id k' e => by
    by_cases hid : id = nx
    · subst hid; exact .inr ⟨Nat.le_refl _, by rw [Pos.toNat_succ]; omega⟩
    · rw [PT.get_put_other _ _ _ _ hid] at e; exact .inl ⟨_, e⟩

/-- Loading cells. -/
theorem Sim.load {B : Base} {ρ : Env} {H : AHeap} {w : World} (h : Sim B ρ H w) {id : Pos} {ro : Bool} {l vs : List AV} {n off b o m : Nat} (e : PT.get id H = some (.cells ro l))
    (r : ρ id = some (b, o, m)) (t : takeN n (l.drop off) = some vs) :
    ∃ cs : List Value, cs.length = n ∧ RelL ρ vs cs ∧ ∀ j v, cs[j]? = some v → w.cell? ((⟨b, o + off, none⟩ : Addr).add j) = some v := by
  obtain ⟨b', o', m', e1, e2, e3, e4, _⟩ := h.cells id ro l e
  rw [r] at e1; cases e1
  obtain ⟨t1, t2⟩ := takeN_spec t
  have hk : ∀ j, j < n → ∃ a, l[off + j]? = some a ∧ vs[j]? = some a := by
    intro j hj
    have : j < vs.length := by omega
    refine ⟨vs[j], ?_, by simp [this]⟩
    have q : vs[j]? = some vs[j] := by simp [this]
    generalize vs[j] = z at q ⊢
    rw [t1, List.getElem?_take_of_lt hj, List.getElem?_drop] at q
    exact q
  have key : ∀ (m k : Nat), k + m ≤ n → ∃ cs : List Value, cs.length = m ∧ (∀ j, j < m → ∃ a c, vs[k + j]? = some a ∧ cs[j]? = some c ∧ Rel ρ a c ∧ w.cell? ⟨b, o + off + (k + j), none⟩ = some c) := by
    intro m
    induction m with
    | zero => intro k _; exact ⟨[], rfl, fun j hj => by omega⟩
    | succ m ih =>
      intro k hkm
      obtain ⟨cs, hcs, hall⟩ := ih (k + 1) (by omega)
      obtain ⟨a, ha1, ha2⟩ := hk k (by omega)
      obtain ⟨c, hc, hr⟩ := e4 _ _ ha1
      refine ⟨c :: cs, by simp [hcs], fun j hj => ?_⟩
      cases j with
      | zero => exact ⟨a, c, by simpa using ha2, by simp, hr, by rw [Nat.add_zero, Nat.add_assoc]; exact hc⟩
      | succ j =>
        obtain ⟨a', c', q1, q2, q3, q4⟩ := hall j (by omega)
        refine ⟨a', c', ?_, by simpa using q2, q3, ?_⟩
        · rw [← q1]; congr 1; omega
        · rw [← q4]; congr 2; omega
  obtain ⟨cs, hcs, hall⟩ := key n 0 (by omega)
  refine ⟨cs, hcs, RelL.of_get (by omega) ?_, ?_⟩
  · intro i a v ha hv
    have hi : i < n := by
      rcases Nat.lt_or_ge i n with q | q
      · exact q
      · rw [List.getElem?_eq_none (by omega)] at hv; cases hv
    obtain ⟨a', c', q1, q2, q3, q4⟩ := hall i hi
    rw [Nat.zero_add] at q1
    rw [ha] at q1; cases q1
    rw [hv] at q2; cases q2
    exact q3
  · intro j v hv
    have hj : j < n := by
      rcases Nat.lt_or_ge j n with q | q
      · exact q
      · rw [List.getElem?_eq_none (by omega)] at hv; cases hv
    obtain ⟨a', c', q1, q2, q3, q4⟩ := hall j hj
    rw [hv] at q2; cases q2
    rw [Nat.zero_add] at q4
    unfold Addr.add
    split
    · rename_i hz; subst hz; simpa using q4
    · exact q4

/-- The cells of a row, one after another. -/
def setRow (w : World) (b o : Nat) : List Value → World
  | [] => w
  | c :: cs => setRow (w.setCell ⟨b, o, none⟩ c) b (o + 1) cs

theorem setRow_other (b : Nat) : ∀ (cs : List Value) (o : Nat) (w : World) (k : Nat), k ≠ b → (setRow w b o cs).heap[k]? = w.heap[k]?
  | [], _, _, _, _ => rfl
  | c :: cs, o, w, k, h => by
    rw [setRow, setRow_other b cs _ _ k h]
    simp only [World.setCell, Array.getElem?_modify]
    rw [if_neg (by simpa using Ne.symm h)]

theorem setRow_size (b : Nat) : ∀ (cs : List Value) (o : Nat) (w : World), (setRow w b o cs).heap.size = w.heap.size
  | [], _, _ => rfl
  | c :: cs, o, w => by rw [setRow, setRow_size b cs]; simp

theorem setRow_same (b : Nat) : ∀ (cs : List Value) (o : Nat) (w : World), (setRow w b o cs).os = w.os ∧ (setRow w b o cs).tape = w.tape ∧ (setRow w b o cs).output = w.output
  | [], _, _ => ⟨rfl, rfl, rfl⟩
  | c :: cs, o, w => by rw [setRow]; exact setRow_same b cs (o + 1) _

theorem setRow_frozen (b : Nat) (a : Addr) : ∀ (cs : List Value) (o : Nat) (w : World), (setRow w b o cs).frozen? a = w.frozen? a
  | [], _, _ => rfl
  | c :: cs, o, w => by rw [setRow, setRow_frozen b a cs]; simp

theorem setRow_cell (b : Nat) : ∀ (cs : List Value) (o : Nat) (w : World) (i : Nat), (∀ j, j < cs.length → (w.cell? ⟨b, o + j, none⟩).isSome = true) →
    (setRow w b o cs).cell? ⟨b, i, none⟩ = if o ≤ i ∧ i < o + cs.length then cs[i - o]? else w.cell? ⟨b, i, none⟩
  | [], o, w, i, _ => by rw [setRow, if_neg (by simp)]
  | c :: cs, o, w, i, h => by
    have h0 := h 0 (by simp)
    obtain ⟨u, hu⟩ := Option.isSome_iff_exists.1 h0
    rw [Nat.add_zero] at hu
    have hstep : ∀ j, (w.setCell ⟨b, o, none⟩ c).cell? ⟨b, j, none⟩ = if j = o then some c else w.cell? ⟨b, j, none⟩ := by
      intro j
      by_cases hj : j = o
      · subst hj; rw [if_pos rfl]; exact World.cell?_setCell_same _ _ _ hu
      · rw [if_neg hj]; exact World.cell?_setCell_other _ _ _ _ (fun e => hj (by cases e; rfl))
    rw [setRow, setRow_cell b cs (o + 1) _ i]
    · by_cases h1 : o + 1 ≤ i ∧ i < o + 1 + cs.length
      · rw [if_pos h1, if_pos (by simp; omega)]
        rw [show i - o = (i - (o + 1)) + 1 by omega]
        simp
      · rw [if_neg h1, hstep]
        by_cases hi : i = o
        · subst hi; rw [if_pos rfl, if_pos (by simp)]; simp
        · rw [if_neg hi, if_neg (by simp; omega)]
    · intro j hj
      rw [hstep]
      split
      · rfl
      · have := h (j + 1) (by simpa using hj)
        rwa [show o + (j + 1) = o + 1 + j by omega] at this

theorem run_storeCells {P : Program} (b o : Nat) : ∀ (cs : List Value) (i : Nat) (w : World), (∀ j, j < cs.length → (w.cell? ⟨b, o + i + j, none⟩).isSome = true) →
    (∀ j, j < cs.length → w.frozen? ⟨b, o + i + j, none⟩ = false) → (∀ c ∈ cs, c.oneCell' = true) →
    (storeCells ⟨b, o, none⟩ cs i).run P w = .ok () (setRow w b (o + i) cs)
  | [], i, w, _, _, _ => by simp [storeCells, setRow]
  | c :: cs, i, w, h1, h2, h3 => by
    have ha : (⟨b, o, none⟩ : Addr).add i = ⟨b, o + i, none⟩ := by
      unfold Addr.add; split
      · rename_i hz; subst hz; rfl
      · rfl
    have h10 := h1 0 (by simp)
    obtain ⟨u, hu⟩ := Option.isSome_iff_exists.1 h10
    have h20 := h2 0 (by simp)
    rw [Nat.add_zero] at hu h20
    simp only [storeCells, Sem.run_bind, ha]
    rw [run_store P w ⟨b, o + i, none⟩ c .plain (h3 c (by simp))]
    simp only [hu, h20, Bool.false_eq_true, if_false, Result.andThen_ok]
    rw [run_storeCells b o cs (i + 1) (w.setCell ⟨b, o + i, none⟩ c) ?_ ?_ (fun x hx => h3 x (by simp [hx])), setRow]
    · rfl
    · intro j hj
      have := h1 (j + 1) (by simpa using hj)
      rw [show o + i + (j + 1) = o + (i + 1) + j by omega] at this
      rw [World.cell?_setCell_other]
      · exact this
      · intro e; injection e with _ e; omega
    · intro j hj
      have := h2 (j + 1) (by simpa using hj)
      rw [show o + i + (j + 1) = o + (i + 1) + j by omega] at this
      rw [World.frozen?_setCell]; exact this

/-- Writing cells of a block of one's own. -/
theorem Sim.store {B : Base} {ρ : Env} {H : AHeap} {w : World} (h : Sim B ρ H w) {id : Pos} {l l' xs : List AV} {cs : List Value} {off b o m : Nat} (e : PT.get id H = some (.cells false l))
    (r : ρ id = some (b, o, m)) (t : putL off xs l = some l') (hx : RelL ρ xs cs) (h1 : ∀ x ∈ xs, x.one = true) {P : Program} (nx : Pos) :
    (storeCells ⟨b, o + off, none⟩ cs).run P w = .ok () (setRow w b (o + off) cs) ∧ Sim B ρ (PT.put id (some (.cells false l')) H) (setRow w b (o + off) cs) ∧
      Step ρ H nx w ρ (PT.put id (some (.cells false l')) H) nx (setRow w b (o + off) cs) := by
  obtain ⟨b', o', m', e1, e2, e3, e4, e40, e41⟩ := h.cells id false l e
  rw [r] at e1; cases e1
  obtain ⟨t1, t2, t3⟩ := putL_spec t
  have hlen := hx.length
  have hin : ∀ j, j < cs.length → off + j < m := by
    intro j hj
    omega
  have hsome : ∀ j, j < cs.length → (w.cell? ⟨b, o + off + 0 + j, none⟩).isSome = true := by
    intro j hj
    rw [show o + off + 0 + j = o + (off + j) by omega]; exact (e41 rfl _ (hin j hj)).1
  have hfro : ∀ j, j < cs.length → w.frozen? ⟨b, o + off + 0 + j, none⟩ = false := by
    intro j hj
    rw [show o + off + 0 + j = o + (off + j) by omega]; exact (e41 rfl _ (hin j hj)).2
  have hone : ∀ c ∈ cs, c.oneCell' = true := by
    intro c hc
    obtain ⟨i, hi, rfl⟩ := List.mem_iff_getElem.1 hc
    have hix : i < xs.length := by omega
    obtain ⟨v, hv, hr⟩ := hx.get (i := i) (a := xs[i]) (by simp [hix])
    rw [List.getElem?_eq_getElem hi] at hv; cases hv
    exact hr.one (h1 _ (List.getElem_mem hix))
  have hown : Own ρ H b := ⟨id, _, _, e, rfl, r⟩
  refine ⟨?_, ?_, ?_⟩
  · have := run_storeCells (P := P) b (o + off) cs 0 w hsome hfro hone
    simpa using this
  · refine ⟨by rw [setRow_size]; exact h.base, fun j ro l2 e5 => ?_, fun j k e5 hk => ?_, fun i j x y b2 o2 p2 hi hj hne r1 r2 => ?_, fun b2 hb2 => by rw [setRow_other b cs _ w b2 (fun q => by subst q; have := e3.own rfl; omega)]; exact h.low b2 hb2⟩
    · by_cases hj : j = id
      · subst hj
        rw [PT.get_put_same] at e5; cases e5
        refine ⟨b, o, m, r, by rw [setRow_size]; exact e2, e3, fun i v hv => ?_, by omega, fun _ i hi => ?_⟩
        · rw [setRow_cell b cs (o + off) w (o + i) (fun j hj => by simpa using hsome j hj)]
          rw [t3 i] at hv
          by_cases hi : off ≤ i ∧ i < off + xs.length
          · rw [if_pos hi] at hv
            rw [if_pos (by omega), show o + i - (o + off) = i - off by omega]
            exact hx.get hv
          · rw [if_neg hi] at hv
            rw [if_neg (by omega)]
            exact e4 i v hv
        · rw [setRow_frozen, setRow_cell b cs (o + off) w (o + i) (fun j hj => by simpa using hsome j hj)]
          refine ⟨?_, (e41 rfl i hi).2⟩
          split
          · rename_i q
            rw [List.getElem?_eq_getElem (by omega)]; rfl
          · exact (e41 rfl i hi).1
      · rw [PT.get_put_other _ _ _ _ hj] at e5
        obtain ⟨b2, o2, m2, q1, q2, q3, q4, q5, q6⟩ := h.cells j ro l2 e5
        have hb : b2 ≠ b := fun q => by subst q; exact h.inj j id _ _ _ _ _ e5 e hj q1 r
        have hcell : ∀ i, (setRow w b (o + off) cs).cell? ⟨b2, i, none⟩ = w.cell? ⟨b2, i, none⟩ := fun i => by
          unfold World.cell?
          rw [setRow_other b cs _ w b2 hb]
        refine ⟨b2, o2, m2, q1, by rw [setRow_size]; exact q2, q3, fun i v hv => ?_, q5, fun hro i hi => ?_⟩
        · rw [hcell]; exact q4 i v hv
        · rw [hcell, setRow_frozen]; exact q6 hro i hi
    · by_cases hj : j = id
      · subst hj; rw [PT.get_put_same] at e5; cases e5; cases hk
      · rw [PT.get_put_other _ _ _ _ hj] at e5
        obtain ⟨b2, m2, ob, q1, q2, q3, q4⟩ := h.objs j k e5 hk
        have hb : b2 ≠ b := fun q => by subst q; exact h.inj j id _ _ _ _ _ e5 e hj q1 r
        exact ⟨b2, m2, ob, q1, q2, by rw [setRow_other b cs _ w b2 hb]; exact q3, q4⟩
    · have f : ∀ (m : Pos) (z : Blk), PT.get m (PT.put id (some (.cells false l')) H) = some z → ∃ z', PT.get m H = some z' := by
        intro m z hz
        by_cases hm : m = id
        · subst hm; exact ⟨_, e⟩
        · rw [PT.get_put_other _ _ _ _ hm] at hz; exact ⟨_, hz⟩
      obtain ⟨x', hx'⟩ := f i x hi
      obtain ⟨y', hy'⟩ := f j y hj
      exact h.inj i j x' y' b2 o2 p2 hx' hy' hne r1 r2
  · obtain ⟨s1, s2, s3⟩ := setRow_same b cs (o + off) w
    refine ⟨Env.le_refl _, fun _ q1 q2 => absurd q1 q2, by rw [setRow_size]; exact Nat.le_refl _, s1, s2, s3, fun k hk ho => ?_, fun k ho hk => ?_, fun k z hz => ?_⟩
    · exact setRow_other b cs _ w k (fun q => by subst q; exact ho hown)
    · obtain ⟨j, k', o', q1, q2, q3⟩ := ho
      by_cases hj : j = id
      · subst hj; rw [r] at q3; cases q3; exact hown
      · rw [PT.get_put_other _ _ _ _ hj] at q1; exact ⟨j, k', o', q1, q2, q3⟩
    · by_cases hk : k = id
      · subst hk; exact .inl ⟨_, e⟩
      · rw [PT.get_put_other _ _ _ _ hk] at hz; exact .inl ⟨_, hz⟩
end Go.Abs
