/- The abstract interpreter, part Zc: every order of a region. -/
import Derived.Test.YteofddgoedkhcaaGreatDoorAbsZb
namespace Go.Abs
section
variable {P : Program} {gs : List Nat} {B : Base} {cf : CallR} {yf : YieldR} {N : Nat} {ops : Array Oper} {E : List Ent} {t : Nat → PT AV} {h : Nat → AHeap} {x : Nat → Pos} {v : Nat → AV} {sn : Nat → List AHeap}
variable {ρ0 : Env} {w0 : World} {a0 : Act} {listed : Array Bool} {a : Act} {w : World} {ρ : Env} {H : AHeap} {g : Nat}

theorem Inv.op (hcf : CallsOK P gs B cf) (hyf : YieldsOK P gs B yf) (R : Reg P gs cf yf N ops E t h x v sn) (I : Inv B ops E t h x v ρ0 w0 a0 listed a w ρ H g) (hF : Fresh ρ0 (x 0) (x E.length)) (hG0 : Glob gs ρ0) (hN : N ≤ a0.tmps.size)
    {i : Nat} (hi : i ∈ Region.ready .any ops listed) {n : Nat} {r : Option Nat} {Q : Exit → Act → World → Prop} {K : Act → World → Prop}
    (hK : ∀ ρ' H' g' a' w', Inv B ops E t h x v ρ0 w0 a0 (listed.setIfInBounds i true) a' w' ρ' H' g' → K a' w') : wpOpIn (Wd r) n P ops Q i K a w := by
  obtain ⟨c, e, o, hn, rfl, ho, hok⟩ := I.now R hi
  have hG : Glob gs ρ := hG0.mono I.step.ext
  have hsame : ∀ p ∈ e.o.tms, PT.get p (fT E v (t 0) (dn E listed) E.length) = PT.get p (t c) := fun p hp => I.same_temps R hn hp
  have hTo : ∀ p ∈ e.o.op.tms, PT.get p (fT E v (t 0) (dn E listed) E.length) = PT.get p (t c) := fun p hp => hsame p (by simp [AOper.tms, hp])
  have hwg : wantA (fT E v (t 0) (dn E listed) E.length) e.o.guard = wantA (t c) e.o.guard := wantA_congr fun p want hg => hsame p (by simp [AOper.tms, hg])
  have hs := (R.ent c e hn.at_).2.2
  have hfr := I.fresh R hF hn
  unfold wpOpIn
  rw [ho]
  simp only
  rcases R.trace hn.at_ with ⟨hw, hop, hlb⟩ | ⟨hw, hvu, e1, e2⟩
  · rw [if_pos (want_ok hok I.temps (hwg.trans hw))]
    have hop' : opA cf yf (ev (fT E v (t 0) (dn E listed) E.length)) (h c) (x c) e.o.op = some (v c, h (c + 1), x (c + 1)) := (opA_congr hTo).trans hop
    rcases sort_cases e.o.op with q | q | q | q
    · obtain ⟨_, e2, e3⟩ := opA_sort0 q hop'
      have hna : ∀ id k, ¬ AlAt E t h x c id k := fun id k ⟨e', _, a1, a2, _⟩ => by rw [hn.at_] at a1; cases a1; omega
      have hsd := op_sound hcf hyf hok.op (e3 H)
      rw [e2] at hfr
      refine hsd.2 ρ w a I.sim hfr hG I.temps n r K Q fun ρ' v' w' hS st hv => ?_
      refine hK ρ' H g _ w' ?_
      refine I.next R hn hok hi hN hS (by rw [e2]; exact st) hv I.hg (fun d hd => .inr (I.below d hd)) (fun d e' he' h3' q' => ?_) (fun id k => ?_) I.out
      · rcases q' with rfl | q'
        · rw [hn.at_] at he'; cases he'; omega
        · exact I.g3 d e' he' h3' q'
      · rw [I.heap]
        refine ⟨fun z => ?_, fun z => ?_⟩
        · rcases z with z | ⟨d, q1, q2, q3, q4⟩
          · exact .inl z
          · exact .inr ⟨d, q1, q2, .inr q3, q4⟩
        · rcases z with z | ⟨d, q1, q2, q3, q4⟩
          · exact .inl z
          · rcases q3 with rfl | q3
            · exact absurd q4 (hna id k)
            · exact .inr ⟨d, q1, q2, q3, q4⟩
    · obtain ⟨_, e2, e3, _⟩ := opA_sort1 q hop
      have hna : ∀ id k, ¬ AlAt E t h x c id k := fun id k ⟨e', _, a1, a2, _⟩ => by rw [hn.at_] at a1; cases a1; omega
      have hl := I.load R hF hG hn hok (by omega) e3 (hlb (by omega)) hTo
      obtain ⟨_, _, _, e4⟩ := opA_sort1 q hop'
      have hsd := op_sound hcf hyf hok.op (e4 H (v c) hl)
      rw [e2] at hfr
      refine hsd.2 ρ w a I.sim hfr hG I.temps n r K Q fun ρ' v' w' hS st hv => ?_
      refine hK ρ' H g _ w' ?_
      refine I.next R hn hok hi hN hS (by rw [e2]; exact st) hv I.hg (fun d hd => .inr (I.below d hd)) (fun d e' he' h3' q' => ?_) (fun id k => ?_) I.out
      · rcases q' with rfl | q'
        · rw [hn.at_] at he'; cases he'; omega
        · exact I.g3 d e' he' h3' q'
      · rw [I.heap]
        refine ⟨fun z => ?_, fun z => ?_⟩
        · rcases z with z | ⟨d, q1, q2, q3, q4⟩
          · exact .inl z
          · exact .inr ⟨d, q1, q2, .inr q3, q4⟩
        · rcases z with z | ⟨d, q1, q2, q3, q4⟩
          · exact .inl z
          · rcases q3 with rfl | q3
            · exact absurd q4 (hna id k)
            · exact .inr ⟨d, q1, q2, q3, q4⟩
    · obtain ⟨l, e1, e2, e3⟩ := opA_sort2 q hop'
      have ha : AlAt E t h x c (x c) (.cells false l) := ⟨e, l, hn.at_, by omega, hw, rfl, rfl, e1, e2⟩
      have hu : ∀ id k, AlAt E t h x c id k → id = x c ∧ k = .cells false l := by
        rintro id k ⟨e', l', a1, a2, a3, rfl, rfl, a4, a5⟩
        rw [e1] at a4
        have := congrArg (PT.get (x c)) a4
        rw [PT.get_put_same, PT.get_put_same] at this
        exact ⟨rfl, by simpa using this.symm⟩
      have hsd := op_sound hcf hyf hok.op (e3 H)
      rw [e2] at hfr
      refine hsd.2 ρ w a I.sim hfr hG I.temps n r K Q fun ρ' v' w' hS st hv => ?_
      exact hK ρ' _ g _ w' (I.alloc R hn hok hi hN (by omega) ha hu hS (by rw [e2]; exact st) hv)
    · have h3 : e.s = 3 := by omega
      have hsd := op_sound hcf hyf hok.op hop'
      refine hsd.2 ρ w a (I.sim.sub (I.sub3 R hn h3)) hfr hG I.temps n r K Q fun ρ' v' w' hS st hv => ?_
      obtain ⟨H', I'⟩ := I.three R hn hok hi hN h3 hS st hv
      exact hK ρ' H' (c + 1) _ w' I'
  · rw [if_neg (by rw [want_ok hok I.temps (hwg.trans hw)]; simp)]
    refine ⟨fun _ _ => trivial, ?_⟩
    have hv : Rel ρ (v c) undef := by rw [hvu]; exact rel_undef
    by_cases h3 : e.s = 3
    · obtain ⟨H', I'⟩ := I.three R hn hok hi hN h3 (by rw [e1]; exact I.sim.sub (I.sub3 R hn h3)) (by rw [e1, e2]; exact Step.refl _ _ _ _) hv
      exact hK ρ H' (c + 1) _ w I'
    · exact hK ρ H g _ w (I.plain R hn hok hi hN h3 (fun id k ⟨e', _, a1, a2, a3, _⟩ => by rw [hn.at_] at a1; cases a1; rw [hw] at a3; cases a3) e2 hv)

/-- How many are not done. -/
def rem (listed : Array Bool) : Nat → Nat
  | 0 => 0
  | k + 1 => rem listed k + if listed.getD k true then 0 else 1

theorem rem_set {i : Nat} (hi : listed.getD i true = false) : ∀ k, (k ≤ i → rem (listed.setIfInBounds i true) k = rem listed k) ∧ (i < k → rem (listed.setIfInBounds i true) k + 1 = rem listed k)
  | 0 => ⟨fun _ => rfl, fun h => by omega⟩
  | k + 1 => by
    obtain ⟨h1, h2⟩ := rem_set hi k
    have hlt := (getD_of_true hi).2
    refine ⟨fun hk => ?_, fun hk => ?_⟩
    · simp only [rem, h1 (by omega), getD_set_ne true (show i ≠ k by omega)]
    · by_cases hik : i = k
      · subst hik
        simp only [rem, h1 (Nat.le_refl _), hi]
        have : (listed.setIfInBounds i true).getD i true = true := by
          rw [Array.getD_eq_getD_getElem?, Array.getElem?_setIfInBounds_self_of_lt hlt]; rfl
        rw [this]; simp
      · have := h2 (by omega)
        simp only [rem, getD_set_ne true hik]
        omega

/-- If nothing may come, all is done. -/
theorem all_done (R : Reg P gs cf yf N ops E t h x v sn) (I : Inv B ops E t h x v ρ0 w0 a0 listed a w ρ H g) (hr : Region.ready .any ops listed = []) : ∀ i, i < ops.size → listed.getD i false = true := by
  intro i
  induction i using Nat.strongRecOn with
  | _ i ih =>
    intro hi
    cases hl : listed.getD i false with
    | true => rfl
    | false =>
      exfalso
      have ho : ops[i]? = some ops[i] := Array.getElem?_eq_getElem hi
      have hu : listed.getD i true = false := by
        rw [Array.getD_eq_getD_getElem?] at hl ⊢
        rw [Array.getElem?_eq_getElem (by rw [I.size]; exact hi)] at hl ⊢
        exact hl
      have : i ∈ Region.ready .any ops listed := mem_ready.2 ⟨hu, ops[i], ho, fun e he hb => by
        have hlt := R.edges i _ ho e he hb
        exact ih e.on hlt (by omega)⟩
      rw [hr] at this; cases this

theorem Inv.done (R : Reg P gs cf yf N ops E t h x v sn) (I : Inv B ops E t h x v ρ0 w0 a0 listed a w ρ H g) (hr : Region.ready .any ops listed = []) :
    Sim B ρ (h E.length) w ∧ Step ρ0 (h 0) (x 0) w0 ρ (h E.length) (x E.length) w ∧ RelA ρ (t E.length) a.tmps := by
  have hall := all_done R I hr
  have hd : ∀ d, d < E.length → dn E listed d = true := fun d hd => by
    obtain ⟨e', he'⟩ : ∃ e', E[d]? = some e' := ⟨E[d], List.getElem?_eq_getElem hd⟩
    rw [dn_of he']
    obtain ⟨⟨o, ho, _⟩, _⟩ := R.ent d e' he'
    exact hall _ (Array.getElem?_eq_some_iff.1 ho).1
  have hsub : Sub (h E.length) H := by
    intro id k q
    rw [I.heap]
    rcases (R.range I.out E.length I.hg (Nat.le_refl _) (fun d e' h1 h2 he' q => by have := I.g3 d e' he' q (hd d h2); omega) id k).1 q with q | ⟨d, q1, q2, q3⟩
    · exact .inl q
    · exact .inr ⟨d, q1, q2, hd d q2, q3⟩
  refine ⟨I.sim.sub hsub, I.step.sub hsub, ?_⟩
  have := I.temps
  rwa [fT_upto R.tr _ E.length (Nat.le_refl _) hd] at this

theorem any_sound (hcf : CallsOK P gs B cf) (hyf : YieldsOK P gs B yf) (R : Reg P gs cf yf N ops E t h x v sn) (hF : Fresh ρ0 (x 0) (x E.length)) (hG0 : Glob gs ρ0) (hN : N ≤ a0.tmps.size) {n : Nat} {r : Option Nat} {Q : Exit → Act → World → Prop}
    (hQ : ∀ ρ' a' w', Sim B ρ' (h E.length) w' → Step ρ0 (h 0) (x 0) w0 ρ' (h E.length) (x E.length) w' → RelA ρ' (t E.length) a'.tmps → a'.tmps.size = a0.tmps.size → a'.defers = a0.defers → Q .normal a' w') :
    ∀ (fuel : Nat) (listed : Array Bool) (a : Act) (w : World) (ρ : Env) (H : AHeap) (g : Nat), Inv B ops E t h x v ρ0 w0 a0 listed a w ρ H g → rem listed ops.size ≤ fuel → wpAnyIn (Wd r) n P .any ops Q fuel listed a w := by
  intro fuel
  induction fuel with
  | zero =>
    intro listed a w ρ H g I hrem
    have hr : Region.ready .any ops listed = [] := by
      cases hr : Region.ready .any ops listed with
      | nil => rfl
      | cons i l =>
        exfalso
        have hi : i ∈ Region.ready .any ops listed := by rw [hr]; simp
        obtain ⟨hu, o, ho, _⟩ := mem_ready.1 hi
        have := (rem_set hu ops.size).2 (Array.getElem?_eq_some_iff.1 ho).1
        omega
    obtain ⟨s1, s2, s3⟩ := I.done R hr
    exact ⟨hr, hQ ρ a w s1 s2 s3 I.tsize I.defers⟩
  | succ fuel ih =>
    intro listed a w ρ H g I hrem
    refine ⟨fun hr => ?_, fun i hi => ?_⟩
    · obtain ⟨s1, s2, s3⟩ := I.done R hr
      exact hQ ρ a w s1 s2 s3 I.tsize I.defers
    · refine I.op hcf hyf R hF hG0 hN hi fun ρ' H' g' a' w' I' => ih _ _ _ _ _ _ I' ?_
      obtain ⟨hu, o, ho, _⟩ := mem_ready.1 hi
      have := (rem_set hu ops.size).2 (Array.getElem?_eq_some_iff.1 ho).1
      omega
end
end Go.Abs
