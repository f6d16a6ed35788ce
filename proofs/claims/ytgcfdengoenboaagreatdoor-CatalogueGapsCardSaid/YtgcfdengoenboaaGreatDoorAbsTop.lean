/- The abstract interpreter, part Top: a call that owns nothing of what lay before. -/
import Derived.Test.YtgcfdengoenboaaGreatDoorAbsY
namespace Go.Abs
section
variable {P : Program} {gs : List Nat}

/-- What lay before stays. -/
theorem Sim.keep {B : Base} {ρ : Env} {H : AHeap} {w w' : World} (hS : Sim B ρ H w) (hk : ∀ b, b < w.heap.size → w'.heap[b]? = w.heap[b]?) (hs : w.heap.size ≤ w'.heap.size) : Sim B ρ H w' where
  base := Nat.le_trans hS.base hs
  cells := fun id ro l e => by
    obtain ⟨b, o, m, q1, q2, q3, q4, q5, q6⟩ := hS.cells id ro l e
    have hb := hk b q2
    have hc : ∀ i, w'.cell? ⟨b, i, none⟩ = w.cell? ⟨b, i, none⟩ := fun i => by unfold World.cell?; rw [hb]
    have hf : ∀ i, w'.frozen? ⟨b, i, none⟩ = w.frozen? ⟨b, i, none⟩ := fun i => by unfold World.frozen?; rw [hb]
    refine ⟨b, o, m, q1, Nat.lt_of_lt_of_le q2 hs, q3, fun i v hv => ?_, q5, fun hro i hi => ?_⟩
    · rw [hc]; exact q4 i v hv
    · rw [hc, hf]; exact q6 hro i hi
  objs := fun id k e hk' => by
    obtain ⟨b, m, o, q1, q2, q3, q4⟩ := hS.objs id k e hk'
    exact ⟨b, m, o, q1, q2, by rw [hk b (Array.getElem?_eq_some_iff.1 q3).1]; exact q3, q4⟩
  inj := hS.inj
  low := fun b hb => (hk b (Nat.lt_of_lt_of_le hb hS.base)).trans (hS.low b hb)

/-- The world behind a call that wrote nothing that lay before. -/
structure Keeps (w w' : World) : Prop where
  heap : ∀ b, b < w.heap.size → w'.heap[b]? = w.heap[b]?
  size : w.heap.size ≤ w'.heap.size
  os : w'.os = w.os
  tape : w'.tape = w.tape
  output : w'.output = w.output

theorem Keeps.trans {w w1 w2 : World} (h : Keeps w w1) (k : Keeps w1 w2) : Keeps w w2 :=
  ⟨fun b hb => (k.heap b (Nat.lt_of_lt_of_le hb h.size)).trans (h.heap b hb), Nat.le_trans h.size k.size, k.os.trans h.os, k.tape.trans h.tape, k.output.trans h.output⟩

theorem Keeps.step {w w' : World} (h : Keeps w w') (ρ : Env) (H : AHeap) (nx : Pos) : Step ρ H nx w ρ H nx w' :=
  ⟨Env.le_refl _, fun _ h k => absurd h k, h.size, h.os, h.tape, h.output, fun b hb _ => h.heap b hb, fun _ h _ => h, fun _ _ h => .inl ⟨_, h⟩⟩

/-- A heap of tables alone: they are for reading, and are package-level variables. -/
structure Tabs (gs : List Nat) (H : AHeap) : Prop where
  ro : ∀ id k, PT.get id H = some k → ∃ l, k = .cells true l
  name : ∀ id k, PT.get id H = some k → ∃ g ∈ gs, id = Pos.ofNat g

open Classical in
/-- The package-level variables' names alone. -/
noncomputable def globEnv (gs : List Nat) : Env := fun id => if h : ∃ g ∈ gs, id = Pos.ofNat g then some (h.choose, 0, 4294967296) else none

theorem globEnv_at {g : Nat} (hg : g ∈ gs) : globEnv gs (Pos.ofNat g) = some (g, 0, 4294967296) := by
  have h : ∃ g' ∈ gs, Pos.ofNat g = Pos.ofNat g' := ⟨g, hg, rfl⟩
  unfold globEnv
  rw [dif_pos h]
  have := h.choose_spec.2
  rw [← Pos.ofNat_inj this]

theorem globEnv_glob : Glob gs (globEnv gs) := fun _ hg => ⟨_, globEnv_at hg⟩

theorem globEnv_fresh {n0 nx : Pos} (h : ∀ g ∈ gs, (Pos.ofNat g).toNat < n0.toNat) : Fresh (globEnv gs) n0 nx := fun id h1 _ => by
  unfold globEnv
  rw [dif_neg]
  rintro ⟨g, hg, rfl⟩
  have := h g hg
  omega

/-- The tables lie in the world. -/
structure Laid (gs : List Nat) (H0 : AHeap) (w : World) : Prop where
  at_ : ∀ g l, g ∈ gs → PT.get (Pos.ofNat g) H0 = some (.cells true l) → g < w.heap.size ∧ l.length ≤ 4294967296 ∧ ∀ i v, l[i]? = some v → ∃ c, w.cell? ⟨g, i, none⟩ = some c ∧ Rel (globEnv gs) v c

theorem Laid.keeps {H0 : AHeap} {w w' : World} (h : Laid gs H0 w) (k : Keeps w w') : Laid gs H0 w' where
  at_ := fun g l hg hl => by
    obtain ⟨h1, h2, h3⟩ := h.at_ g l hg hl
    refine ⟨Nat.lt_of_lt_of_le h1 k.size, h2, fun i v hv => ?_⟩
    obtain ⟨c, c1, c2⟩ := h3 i v hv
    refine ⟨c, ?_, c2⟩
    unfold World.cell? at c1 ⊢
    rw [k.heap g h1]; exact c1

theorem Laid.sim {H0 : AHeap} {w : World} (hT : Tabs gs H0) (h : Laid gs H0 w) : Sim (mkB P gs w.heap) (globEnv gs) H0 w where
  base := Nat.le_refl _
  cells := fun id ro l e => by
    obtain ⟨l', q⟩ := hT.ro _ _ e
    cases q
    obtain ⟨g, hg, rfl⟩ := hT.name _ _ e
    obtain ⟨h1, h2, h3⟩ := h.at_ g l hg e
    refine ⟨g, 0, _, globEnv_at hg, h1, ⟨(fun h => by cases h), fun _ => h1⟩, fun i v hv => ?_, h2, fun h => by cases h⟩
    rw [Nat.zero_add]; exact h3 i v hv
  objs := fun id k e hk => by
    obtain ⟨l', rfl⟩ := hT.ro _ _ e
    cases hk
  inj := fun i j x y b o p e1 e2 hne r1 r2 => by
    obtain ⟨g, hg, rfl⟩ := hT.name _ _ e1
    obtain ⟨g', hg', rfl⟩ := hT.name _ _ e2
    rw [globEnv_at hg] at r1
    rw [globEnv_at hg'] at r2
    cases r1; cases r2
    exact hne rfl
  low := fun _ _ => rfl

/-- No table is owned. -/
theorem tables_own {ρ : Env} {H0 : AHeap} (hT : Tabs gs H0) (b : Nat) : ¬ Own ρ H0 b := by
  rintro ⟨id, k, o, e, hro, _⟩
  obtain ⟨l, rfl⟩ := hT.ro _ _ e
  cases hro

/-- A CALL, RUN BY THE INTERPRETER FROM THE TABLES ALONE: what it hands back; nothing that lay before is written. -/
theorem run_call (hm : P.follows .mixedOrders = true) {fns : Nat → Option AFn} {sum : Nat → List AV → AHeap → Option AV} {H0 : AHeap} {w : World} (hfns : FnsOK P gs fns) (hsum : SumOK P gs (mkB P gs w.heap) sum) (hT : Tabs gs H0) {n0 : Pos}
    (hn : ∀ g ∈ gs, (Pos.ofNat g).toNat < n0.toNat) {m f : Nat} {args : List AV} {v : AV} {H' : AHeap} {nx' : Pos} (h : top fns sum m f args H0 n0 = some (v, H', nx')) (hl : Laid gs H0 w) {cargs : Array Value} (ha : RelL (globEnv gs) args cargs.toList) :
    Calls P f cargs w (fun e w' => ∃ c ρ', e = .returned c ∧ Keeps w w' ∧ Rel ρ' v c) := by
  have hs := (call_ok hm hfns hsum h).spec (globEnv gs) w cargs (hl.sim hT) (globEnv_fresh hn) globEnv_glob ha
  refine hs.mono ?_
  rintro e w' ⟨c, ρ', rfl, _, st, hv⟩
  exact ⟨c, ρ', rfl, ⟨fun b hb => st.frame b hb (tables_own hT b), st.size, st.os, st.tape, st.output⟩, hv⟩

/-- The tables lie in a heap that the interpreter runs on. -/
theorem laid_of_sim {B : Base} {ρ : Env} {H H0 : AHeap} {w : World} (hS : Sim B ρ H w) (hG : Glob gs ρ) (hsub : Sub H0 H) (hlen : ∀ id l, PT.get id H0 = some (.cells true l) → l.length ≤ 4294967296)
    (hplain : ∀ id l, PT.get id H0 = some (.cells true l) → ∀ v ∈ l, ∀ c, Rel ρ v c → Rel (globEnv gs) v c) : Laid gs H0 w where
  at_ := fun g l hg hl => by
    obtain ⟨b, o, m, q1, q2, q3, q4, q5, q6⟩ := hS.cells _ _ _ (hsub _ _ hl)
    obtain ⟨m', e⟩ := hG g hg
    rw [e] at q1; cases q1
    refine ⟨q2, hlen _ _ hl, fun i v hv => ?_⟩
    obtain ⟨c, c1, c2⟩ := q4 i v hv
    rw [Nat.zero_add] at c1
    exact ⟨c, c1, hplain _ _ hl v (List.mem_of_getElem? hv) c c2⟩
end
end Go.Abs

namespace Go.Abs
section
variable {P : Program} {gs : List Nat} {B : Base}

/-- Operations in order, with others behind. -/
theorem seq_sound_to {cf : CallR} {yf : YieldR} (hcf : CallsOK P gs B cf) (hyf : YieldsOK P gs B yf) {N : Nat} {ops : Array Oper} : ∀ (l : List Nat) (os : List Oper) (aos : List AOper) (l2 : List Nat) (T : PT AV) (H : AHeap) (nx : Pos) (T' : PT AV) (H' : AHeap) (nx' : Pos),
    (∀ i : Nat, (l.map fun i => ops[i]?)[i]? = (os.map some)[i]?) → copers P gs N ops os = some aos → seqA cf yf aos T H nx = some (T', H', nx') →
    nx.toNat ≤ nx'.toNat ∧ ∀ (ρ : Env) (w : World) (a : Act), Sim B ρ H w → Fresh ρ nx nx' → Glob gs ρ → RelA ρ T a.tmps → N ≤ a.tmps.size → ∀ (n : Nat) (r : Option Nat) (Q : Exit → Act → World → Prop),
      (∀ ρ' a' w', Sim B ρ' H' w' → Step ρ H nx w ρ' H' nx' w' → RelA ρ' T' a'.tmps → a'.tmps.size = a.tmps.size → a'.defers = a.defers → wpOpsIn (Wd r) n P ops Q l2 a' w') → wpOpsIn (Wd r) n P ops Q (l ++ l2) a w
  | l, [], aos, l2, T, H, nx, T', H', nx', hl, hc, h => by
    simp [copers] at hc; subst hc
    simp [seqA] at h
    obtain ⟨rfl, rfl, rfl⟩ := h
    have : l = [] := by
      cases l with
      | nil => rfl
      | cons x l => have := hl 0; simp at this
    subst this
    exact ⟨Nat.le_refl _, fun ρ w a hS _ _ hT hN n r Q hQ => hQ ρ a w hS (Step.refl _ _ _ _) hT rfl rfl⟩
  | l, o :: os, aos, l2, T, H, nx, T', H', nx', hl, hc, h => by
    obtain ⟨i, l, rfl⟩ : ∃ i l', l = i :: l' := by
      cases l with
      | nil => have := hl 0; simp at this
      | cons x l => exact ⟨x, l, rfl⟩
    have hi : ops[i]? = some o := by have := hl 0; simpa using this
    have hl' : ∀ j : Nat, (l.map fun i => ops[i]?)[j]? = (os.map some)[j]? := fun j => by have := hl (j + 1); simpa using this
    simp only [copers] at hc
    split at hc
    · rename_i ao aos' h1 h2
      simp at hc; subst hc
      have hok := coper_ok h1
      simp only [seqA] at h
      split at h
      · rename_i hw
        split at h
        · rename_i v H1 nx1 hop
          have q1 := op_sound hcf hyf hok.op hop
          have q2 := seq_sound_to hcf hyf l os aos' l2 _ _ _ _ _ _ hl' h2 h
          refine ⟨by omega, fun ρ w a hS hF hG hT hN n r Q hQ => ?_⟩
          simp only [List.cons_append, wpOpsIn, hi]
          rw [if_pos (want_ok hok hT hw)]
          refine q1.2 ρ w a hS (hF.fst q2.1) hG hT n r _ Q fun ρ1 v1 w1 s1 st1 hv => ?_
          obtain ⟨p1, p2, p3⟩ := put_rel hok (hT.mono st1.ext) hv hN
          exact q2.2 ρ1 w1 _ s1 (hF.snd st1 q1.1) (hG.mono st1.ext) p1 (by rw [p2]; exact hN) n r Q fun ρ2 a2 w2 s2 st2 t2 n2 d2 =>
            hQ ρ2 a2 w2 s2 (st1.trans st2 q1.1 q2.1) t2 (n2.trans p2) (d2.trans p3)
        · cases h
      · rename_i hw
        have q2 := seq_sound_to hcf hyf l os aos' l2 _ _ _ _ _ _ hl' h2 h
        refine ⟨q2.1, fun ρ w a hS hF hG hT hN n r Q hQ => ?_⟩
        simp only [List.cons_append, wpOpsIn, hi]
        rw [if_neg (by rw [want_ok hok hT hw]; simp)]
        obtain ⟨p1, p2, p3⟩ := put_rel hok hT rel_undef hN
        exact ⟨fun _ _ => trivial, q2.2 ρ w _ hS hF hG p1 (by rw [p2]; exact hN) n r Q fun ρ2 a2 w2 s2 st2 t2 n2 d2 => hQ ρ2 a2 w2 s2 st2 t2 (n2.trans p2) (d2.trans p3)⟩
      · cases h
    · cases hc

/-- A call of a function of the program's, by what is known of it. -/
theorem op_call {o : Oper} {f : Nat} {args : List AX} {a : Act} {w : World} {n : Nat} {r : Option Nat} {K : Act → World → Prop} {Q : Exit → Act → World → Prop} (hc : cop P gs o = some (.call (.c (.fn (.func f) [] [])) args)) (ho : ∀ c, o.op = .call c → c.callee = .value (.func f))
    (hf : ∃ fn, P.funcs[f]? = some fn ∧ (fn.name == "runtime.NumGoroutine") = false ∧ fn.body.isNone = false) {R : Value → World → Prop}
    (hcall : ∀ c, o.op = .call c → Calls P f (c.args.map a.eval) w (fun e w' => ∃ v, e = .returned v ∧ R v w')) (hK : ∀ v w', R v w' → K (a.put o.dst v) w') : o.wpIn (Wd r) n P a w K Q := by
  obtain ⟨c, g, hop, hcal, _, _⟩ := cop_call hc
  have hcv := ho c hop
  obtain ⟨fn, e1, e2, e3⟩ := hf
  refine ⟨about_wide o w _, ?_⟩
  rw [Oper.semAt_eq _ _ _ (cop_defer hc)]
  have hrun : (execOp a.eval o).run P w = .ok (.enter f (c.args.map a.eval)) w := by
    have hcf' : ∀ args, (callFunc f args).run P w = .ok (.enter f args) w := by
      intro args
      simp only [callFunc, Sem.run_bind, run_program, Result.andThen_ok, e1]
      simp only [e2, e3, Bool.false_eq_true, if_false]
      rfl
    have rv : a.eval (.func f) = .func (.func f) #[] #[] := rfl
    simp only [execOp, hop, resolve, hcv, rv, Deferred.ofValue, Sem.run_bind, Sem.run_pure, Result.andThen_ok, invoke]
    rw [hcf']
    simp
  rw [hrun]
  refine ⟨(fun h => by cases h), callsIn_Wd ((hcall c hop).mono ?_)⟩
  rintro e w' ⟨v, rfl, q⟩
  exact hK v w' q
end

def seqL : Code → Code
  | .seq a _ => a
  | c => c
def seqR : Code → Code
  | .seq _ b => b
  | c => c
def regOps : Code → Array Oper
  | .region _ ops _ => ops
  | _ => #[]
def regId : Code → Nat
  | .region i _ _ => i
  | _ => 0
def aseqL : AC → AC
  | .seq a _ => a
  | c => c
def aseqR : AC → AC
  | .seq _ b => b
  | c => c
def aregOps : AC → List AOper
  | .reg ops => ops
  | _ => []
end Go.Abs
