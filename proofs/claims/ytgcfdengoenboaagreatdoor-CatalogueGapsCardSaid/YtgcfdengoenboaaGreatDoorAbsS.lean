/- The abstract interpreter, part S: code. -/
import Derived.Test.YtgcfdengoenboaaGreatDoorAbsN
import Derived.LoopNIn
namespace Go.Abs
section
variable {P : Program} {gs : List Nat} {B : Base} {fns : Nat → Option AFn} {sum : Nat → List AV → AHeap → Option AV}

theorem codeSpec_zero (fns : Nat → Option AFn) (sum : Nat → List AV → AHeap → Option AV) : ExecSpec P gs B (exec fns sum 0) := fun _ _ _ _ _ _ _ _ h => by cases h

theorem cond_eval {ρ : Env} {T : PT AV} {a : Act} {c : Operand} {t : AX} {b : Bool} (hT : RelA ρ T a.tmps) (hG : Glob gs ρ) (hc : cox gs c = some t) (h : ev T t = .bool b) : a.eval c = .bool b := by
  have := evs_of hT hG c t hc
  rw [h] at this
  simpa [Rel] using this

theorem range_sound {ex : ExecR} (hcf : CallsOK P gs B (callA fns sum ex)) (hB : CrOK P gs B) {N : Nat} {f : Operand} {ps : Array Tmp} {assign body : Code} {t : AX} {x y : AC} {s : St} {xx : AEx} {s' : St} {rd : Option Pos}
    (hf : cox gs f = some t) (hx : cc P gs N assign = some x) (hy : cc P gs N body = some y) (hp : ps.all (fun p => decide (p < N)) = true)
    (h : execF fns sum ex (.rng t (ps.toList.map Pos.ofNat) x y) rd s = some (xx, s')) : CodeSpec P gs B N (.rangeFunc f ps assign body) rd s xx s' := by
  simp only [execF] at h
  cases rd with
  | some _ => cases h
  | none =>
  simp only at h
  split at h
  · rename_i g fs cs hg
    split at h
    · rename_i v H nx hcall
      have hs := hcf _ _ _ _ _ _ _ hcall
      have key : ∀ (rdy : Bool) (pend : Option (Option Nat)) (T0 : PT AV) (ps0 : List Pos) (a0 b0 : AC), PT.get s.nx.succ H = some (.loop rdy pend T0 ps0 a0 b0) → stOf rdy pend ≠ .busy →
          s' = ⟨s.T, s.nx :: s.D, PT.put s.nx.succ none H, nx⟩ → xx.toExit = (match pend with | none => Exit.normal | some none => .ret | some (some i) => .exit i) → CodeSpec P gs B N (.rangeFunc f ps assign body) none s xx s' := by
        intro rdy pend T0 ps0 a0 b0 hget hbusy hs' hxx
        subst hs'
        have le := hs.le
        rw [Pos.toNat_succ, Pos.toNat_succ] at le
        refine ⟨by show s.nx.toNat ≤ nx.toNat; omega, fun ρ w a hS hF hG hT hN hD n r hR Q hQ => ?_⟩
        have hr : r = none := by rcases hR with ⟨_, h⟩ | ⟨_, _, _, h, _⟩; exact h; cases h
        subst hr
        have hn0 : ρ s.nx = none := hF s.nx (Nat.le_refl _) (by show s.nx.toNat < nx.toNat; omega)
        have hn1 : ρ s.nx.succ = none := hF s.nx.succ (by rw [Pos.toNat_succ]; omega) (by rw [Pos.toNat_succ]; show _ < nx.toNat; omega)
        obtain ⟨S1, st1⟩ := hS.allocObj hn0 .dfr (.deferred (some [])) rfl rfl
        have hne : s.nx.succ ≠ s.nx := fun q => by have := congrArg Pos.toNat q; rw [Pos.toNat_succ] at this; omega
        have hn1' : (ρ.set s.nx (w.heap.size, 0, 0)) s.nx.succ = none := by rw [Env.set_other _ _ hne]; exact hn1
        refine wpIn_rangeFunc fun fn _ => ?_
        have hle2 := Env.le_trans st1.ext (Env.set_le (x := ((w.alloc (.deferred (some []))).heap.size, 0, 0)) hn1')
        obtain ⟨S2, st2⟩ := S1.allocObj hn1' (.loop true none s.T (ps.toList.map Pos.ofNat) x y) (.loop { state := .ready, pending := none, fn, tmps := a.tmps, params := ps, assign, body, defers := w.heap.size }) rfl
          ⟨_, rfl, rfl, rfl, hT.mono hle2, rfl, fun p hp' => Nat.lt_of_lt_of_le (by have := Array.all_eq_true.1 hp; simp at this; obtain ⟨i, hi, rfl⟩ := List.getElem_of_mem hp'; exact this i (by simpa using hi)) hN, (hB _ _ _).2 ⟨N, hN, hx⟩, (hB _ _ _).2 ⟨N, hN, hy⟩⟩
        have hsz : (w.alloc (.deferred (some []))).heap.size = w.heap.size + 1 := World.size_alloc _ _
        have st12 := st1.trans st2 (by simp only [Pos.toNat_succ]; omega) (by simp only [Pos.toNat_succ]; omega)
        have hrun := run_enterLoop_outer (P := P) (w := w) fn a.tmps ps assign body
        generalize hW : (w.alloc (.deferred (some []))).alloc (.loop { state := .ready, pending := none, fn, tmps := a.tmps, params := ps, assign, body, defers := w.heap.size }) = W2 at S2 st2 st12 hrun
        have hev := evs_of hT hG f t hf
        rw [hg] at hev
        simp only [Rel] at hev
        obtain ⟨fs', cs', rv, r1, r2⟩ := hev
        obtain ⟨fnn, e1, e2, e3⟩ := hs.fn
        have hF2 : Fresh _ s.nx nx := hF
        refine ⟨_, _, W2, { target := .fn (.func g) cs', args := fs' ++ #[.func (.yield (w.heap.size + 1)) #[] #[]] }, W2, g, (fs' ++ #[.func (.yield (w.heap.size + 1)) #[] #[]]) ++ cs', W2, hrun, ?_, fun _ _ => trivial, ?_, (fun h => by cases h), ?_⟩
        · simp only [resolve, rv]
          simp [go_sem, Deferred.ofValue, Act.eval]
        · have : ∀ (args : Array Value) (W : World), (callFunc g args).run P W = .ok (.enter g args) W := by
            intro args W
            simp only [callFunc, Sem.run_bind, run_program, Result.andThen_ok, e1]
            simp only [e2, e3, Bool.false_eq_true, if_false]
            rfl
          simp only [invoke]
          exact this _ _
        · refine callsIn_Wd (Calls.mono (hs.spec _ _ _ S2 (hF2.snd st12 (by simp only [Pos.toNat_succ]; omega)) (hG.mono hle2) ?_) ?_)
          · have ry : Rel ((ρ.set s.nx (w.heap.size, 0, 0)).set s.nx.succ ((w.alloc (.deferred (some []))).heap.size, 0, 0)) (.yld s.nx.succ) (.func (.yield (w.heap.size + 1)) #[] #[]) := by
              simp only [Rel]
              exact ⟨_, _, _, Env.set_same _ _ _, by rw [hsz]⟩
            have r1' := r1.mono hle2
            have r2' := r2.mono hle2
            simp only [Array.toList_append]
            rw [List.append_assoc]
            exact r1'.append (RelL.cons ry r2')
          · rintro e w3 ⟨v', ρ3, rfl, S3, st3, _⟩
            have hyl : ρ3 s.nx.succ = some (w.heap.size + 1, 0, 0) := by
              have := st3.ext _ _ (Env.set_same (ρ.set s.nx (w.heap.size, 0, 0)) s.nx.succ ((w.alloc (.deferred (some []))).heap.size, 0, 0))
              rw [this, hsz]
            have hdf : ρ3 s.nx = some (w.heap.size, 0, 0) := st3.ext _ _ (by rw [Env.set_other _ _ (Ne.symm hne)]; exact Env.set_same _ _ _)
            obtain ⟨m3, l3, q1, q2, q3⟩ := loop_obj S3 hget hyl
            have hst : l3.state ≠ .busy := by rw [q3.state]; exact hbusy
            obtain ⟨S4, st4⟩ := S3.putObj (k := none) (o := .loop { l3 with state := .exhausted }) hget rfl hyl (fun _ h => by cases h) nx
            have stT := (st12.trans st3 (by simp only [Pos.toNat_succ]; omega) hs.le).trans st4 (by omega) (Nat.le_refl _)
            have hQ' := hQ ρ3 { a with defers := [{ target := .collected w.heap.size, args := #[] }] ++ a.defers } _ S4 stT (hT.mono stT.ext) rfl ⟨w.heap.size, 0, a.defers, rfl, hdf, hD.mono stT.ext⟩
            refine ⟨_, _, run_endLoop q2 hst, ?_⟩
            rw [q3.pending] at hQ' ⊢
            rw [hxx] at hQ'
            cases pend with
            | none => exact hQ'
            | some j => cases j with
              | none => exact wpIn_ret hQ'
              | some i => exact wpIn_exit hQ'
      split at h
      · rename_i T0 ps0 a0 b0 hget
        simp at h; obtain ⟨rfl, rfl⟩ := h
        exact key true none T0 ps0 a0 b0 hget (by simp [stOf]) rfl rfl
      · rename_i T0 ps0 a0 b0 hget
        simp at h; obtain ⟨rfl, rfl⟩ := h
        exact key false (some none) T0 ps0 a0 b0 hget (by simp [stOf]) rfl rfl
      · rename_i i T0 ps0 a0 b0 hget
        simp at h; obtain ⟨rfl, rfl⟩ := h
        exact key false (some (some i)) T0 ps0 a0 b0 hget (by simp [stOf]) rfl rfl
      · cases h
    · cases h
  · cases h

/-- What is asked of drawn regions, when calls and yields are sound. -/
def DrawsOK (P : Program) (gs : List Nat) (B : Base) : Prop := ∀ cf yf, CallsOK P gs B cf → YieldsOK P gs B yf → DrawOK P gs B cf yf

/-- Loops: so many rounds. -/
structure LoopSpec (P : Program) (gs : List Nat) (B : Base) (m : Nat) (N : Nat) (c : Code) (rd : Option Pos) (s : St) (x : AEx) (s' : St) : Prop where
  le : s.nx.toNat ≤ s'.nx.toNat
  spec : ∀ (ρ : Env) (w : World) (a : Act), Sim B ρ s.H w → Fresh ρ s.nx s'.nx → Glob gs ρ → RelA ρ s.T a.tmps → N ≤ a.tmps.size → RelD ρ s.D a.defers → ∀ (n : Nat) (r : Option Nat), Rnd ρ rd r → ∀ (Q : Exit → Act → World → Prop),
    (∀ ρ' a' w', Sim B ρ' s'.H w' → Step ρ s.H s.nx w ρ' s'.H s'.nx w' → RelA ρ' s'.T a'.tmps → a'.tmps.size = a.tmps.size → RelD ρ' s'.D a'.defers → Q x.toExit a' w') → Code.roundsIn (Wd r) n P c Q m a w

theorem exec_sound (hdraw : DrawsOK P gs B) (hfns : FnsOK P gs fns) (hsum : SumOK P gs B sum) (hB : CrOK P gs B) : ∀ m, ExecSpec P gs B (exec fns sum m) ∧
    ∀ (N : Nat) (c : Code) (ac : AC) (rd : Option Pos) (s : St) (x : AEx) (s' : St), cc P gs N c = some ac → exec fns sum m (.loop ac) rd s = some (x, s') → LoopSpec P gs B m N c rd s x s' := by
  intro m
  induction m with
  | zero => exact ⟨(fun _ _ _ _ _ _ _ _ h => by cases h), (fun _ _ _ _ _ _ _ _ h => by cases h)⟩
  | succ m ih =>
    obtain ⟨hex, hloop⟩ := ih
    have hcf : CallsOK P gs B (callA fns sum (exec fns sum m)) := call_sound hex hfns hsum
    have hyf : YieldsOK P gs B (yieldA (exec fns sum m)) := yield_sound hex (exec_mono m) hB
    have hL : ∀ (N : Nat) (c : Code) (ac : AC) (rd : Option Pos) (s : St) (x : AEx) (s' : St), cc P gs N c = some ac → exec fns sum (m + 1) (.loop ac) rd s = some (x, s') → LoopSpec P gs B (m + 1) N c rd s x s' := by
      intro N c ac rd s x s' hc h
      rw [exec_succ] at h
      simp only [execF] at h
      split at h
      · rename_i s1 h1
        have q1 := hex _ _ _ _ _ _ _ hc h1
        have q2 := hloop _ _ _ _ _ _ _ hc h
        refine ⟨Nat.le_trans q1.le q2.le, fun ρ w a hS hF hG hT hN hD n r hR Q hQ => ?_⟩
        rw [roundsIn_succ]
        refine q1.spec ρ w a hS (hF.fst q2.le) hG hT hN hD n r hR _ fun ρ1 a1 w1 S1 st1 T1 n1 D1 => ?_
        exact q2.spec ρ1 w1 a1 S1 (hF.snd st1 q1.le) (hG.mono st1.ext) T1 (by rw [n1]; exact hN) D1 n r (hR.mono st1.ext) Q fun ρ2 a2 w2 S2 st2 T2 n2 D2 =>
          hQ ρ2 a2 w2 S2 (st1.trans st2 q1.le q2.le) T2 (n2.trans n1) D2
      · rename_i hno
        have q1 := hex _ _ _ _ _ _ _ hc h
        refine ⟨q1.le, fun ρ w a hS hF hG hT hN hD n r hR Q hQ => ?_⟩
        rw [roundsIn_succ]
        refine q1.spec ρ w a hS hF hG hT hN hD n r hR _ fun ρ1 a1 w1 S1 st1 T1 n1 D1 => ?_
        have := hQ ρ1 a1 w1 S1 st1 T1 n1 D1
        cases x with
        | normal => exact absurd h (hno s')
        | exit i => exact this
        | ret => exact this
    refine ⟨?_, hL⟩
    intro N c ac rd s x s' hc h
    have h0 := h
    rw [exec_succ] at h
    cases c with
    | skip =>
      simp only [cc, Option.some.injEq] at hc; subst hc
      simp [execF] at h; obtain ⟨rfl, rfl⟩ := h
      exact ⟨Nat.le_refl _, fun ρ w a hS hF hG hT hN hD n r hR Q hQ => wpIn_skip (hQ ρ a w hS (Step.refl _ _ _ _) hT rfl hD)⟩
    | region rid ops draw =>
      simp only [cc] at hc
      split at hc
      · rename_i hd
        subst hd
        have hdl : ∃ dl, ac = .drw dl := by
          unfold cdrw at hc
          repeat' split at hc
          all_goals first
            | (cases hc; done)
            | (simp at hc; subst hc; exact ⟨_, rfl⟩)
            | (simp only at hc; repeat' split at hc) <;> first | (cases hc; done) | (simp at hc; subst hc; exact ⟨_, rfl⟩)
        obtain ⟨dl, rfl⟩ := hdl
        simp only [execF] at h
        split at h
        · rename_i T H nx hd
          simp at h; obtain ⟨rfl, rfl⟩ := h
          have q := hdraw _ _ hcf hyf N rid ops dl _ _ _ _ _ _ hc hd
          exact ⟨q.1, fun ρ w a hS hF hG hT hN hD n r hR Q hQ => q.2 ρ w a hS hF hG hT hN n r Q fun ρ1 a1 w1 S1 st1 T1 n1 D1 => hQ ρ1 a1 w1 S1 st1 T1 n1 (by rw [D1]; exact hD.mono st1.ext)⟩
        · cases h
      · rename_i hd
        simp at hd; subst hd
        simp only [Option.map_eq_some_iff] at hc
        obtain ⟨aos, hc, rfl⟩ := hc
        simp only [execF] at h
        split at h
        · rename_i T H nx hd
          simp at h; obtain ⟨rfl, rfl⟩ := h
          have q := region_sound hcf hyf rid hc hd
          exact ⟨q.1, fun ρ w a hS hF hG hT hN hD n r hR Q hQ => q.2 ρ w a hS hF hG hT hN n r Q fun ρ1 a1 w1 S1 st1 T1 n1 D1 => hQ ρ1 a1 w1 S1 st1 T1 n1 (by rw [D1]; exact hD.mono st1.ext)⟩
        · cases h
    | seq p q =>
      simp only [cc] at hc
      split at hc
      · rename_i x1 y1 hc1 hc2
        simp at hc; subst hc
        simp only [execF] at h
        split at h
        · rename_i s1 h1
          have q1 := hex _ _ _ _ _ _ _ hc1 h1
          have q2 := hex _ _ _ _ _ _ _ hc2 h
          refine ⟨Nat.le_trans q1.le q2.le, fun ρ w a hS hF hG hT hN hD n r hR Q hQ => wpIn_seq ?_⟩
          refine q1.spec ρ w a hS (hF.fst q2.le) hG hT hN hD n r hR _ fun ρ1 a1 w1 S1 st1 T1 n1 D1 => ?_
          exact q2.spec ρ1 w1 a1 S1 (hF.snd st1 q1.le) (hG.mono st1.ext) T1 (by rw [n1]; exact hN) D1 n r (hR.mono st1.ext) Q fun ρ2 a2 w2 S2 st2 T2 n2 D2 =>
            hQ ρ2 a2 w2 S2 (st1.trans st2 q1.le q2.le) T2 (n2.trans n1) D2
        · rename_i hno
          have q1 := hex _ _ _ _ _ _ _ hc1 h
          refine ⟨q1.le, fun ρ w a hS hF hG hT hN hD n r hR Q hQ => wpIn_seq ?_⟩
          refine q1.spec ρ w a hS hF hG hT hN hD n r hR _ fun ρ1 a1 w1 S1 st1 T1 n1 D1 => ?_
          have := hQ ρ1 a1 w1 S1 st1 T1 n1 D1
          cases x with
          | normal => exact absurd h (hno s')
          | exit i => exact this
          | ret => exact this
      · cases hc
    | cond t p q =>
      simp only [cc] at hc
      split at hc
      · rename_i t1 x1 y1 ht hc1 hc2
        simp at hc; subst hc
        simp only [execF] at h
        split at h
        · rename_i hv
          have q1 := hex _ _ _ _ _ _ _ hc1 h
          exact ⟨q1.le, fun ρ w a hS hF hG hT hN hD n r hR Q hQ => wpIn_cond_true (cond_eval hT hG ht hv) (q1.spec ρ w a hS hF hG hT hN hD n r hR Q hQ)⟩
        · rename_i hv
          have q1 := hex _ _ _ _ _ _ _ hc2 h
          exact ⟨q1.le, fun ρ w a hS hF hG hT hN hD n r hR Q hQ => wpIn_cond_false (cond_eval hT hG ht hv) (q1.spec ρ w a hS hF hG hT hN hD n r hR Q hQ)⟩
        · cases h
      · cases hc
    | block id p =>
      simp only [cc, Option.map_eq_some_iff] at hc
      obtain ⟨x1, hc1, rfl⟩ := hc
      simp only [execF] at h
      split at h
      · rename_i i s1 h1
        have q1 := hex _ _ _ _ _ _ _ hc1 h1
        split at h
        · rename_i hi
          simp at h; obtain ⟨rfl, rfl⟩ := h
          refine ⟨q1.le, fun ρ w a hS hF hG hT hN hD n r hR Q hQ => wpIn_block ?_⟩
          refine q1.spec ρ w a hS hF hG hT hN hD n r hR _ fun ρ1 a1 w1 S1 st1 T1 n1 D1 => ?_
          have hi' : i = id := Nat.eq_of_beq_eq_true hi
          simp only [AEx.toExit, Exit.inBlock, hi', if_true]
          exact hQ ρ1 a1 w1 S1 st1 T1 n1 D1
        · rename_i hi
          simp at h; obtain ⟨rfl, rfl⟩ := h
          refine ⟨q1.le, fun ρ w a hS hF hG hT hN hD n r hR Q hQ => wpIn_block ?_⟩
          refine q1.spec ρ w a hS hF hG hT hN hD n r hR _ fun ρ1 a1 w1 S1 st1 T1 n1 D1 => ?_
          have hi' : i ≠ id := fun e => hi (by rw [e]; exact Nat.beq_refl id)
          simp only [AEx.toExit, Exit.inBlock, hi', if_false]
          exact hQ ρ1 a1 w1 S1 st1 T1 n1 D1
      · rename_i hno
        have q1 := hex _ _ _ _ _ _ _ hc1 h
        refine ⟨q1.le, fun ρ w a hS hF hG hT hN hD n r hR Q hQ => wpIn_block ?_⟩
        refine q1.spec ρ w a hS hF hG hT hN hD n r hR _ fun ρ1 a1 w1 S1 st1 T1 n1 D1 => ?_
        have := hQ ρ1 a1 w1 S1 st1 T1 n1 D1
        cases x with
        | normal => exact this
        | exit i => exact absurd h (hno i s')
        | ret => exact this
    | loop p =>
      simp only [cc, Option.map_eq_some_iff] at hc
      obtain ⟨x1, hc1, rfl⟩ := hc
      have q1 := hL _ _ _ _ _ _ _ hc1 h0
      exact ⟨q1.le, fun ρ w a hS hF hG hT hN hD n r hR Q hQ => wpIn_loop_rounds (m + 1) (q1.spec ρ w a hS hF hG hT hN hD n r hR Q hQ)⟩
    | rangeFunc f ps asg body =>
      simp only [cc] at hc
      split at hc
      · rename_i t x1 y1 hf hc1 hc2
        split at hc
        · rename_i hp
          simp at hc; subst hc
          exact range_sound hcf hB hf hc1 hc2 hp h
        · cases hc
      · cases hc
    | exit id =>
      simp only [cc, Option.some.injEq] at hc; subst hc
      simp [execF] at h; obtain ⟨rfl, rfl⟩ := h
      exact ⟨Nat.le_refl _, fun ρ w a hS hF hG hT hN hD n r hR Q hQ => wpIn_exit (hQ ρ a w hS (Step.refl _ _ _ _) hT rfl hD)⟩
    | ret =>
      simp only [cc, Option.some.injEq] at hc; subst hc
      simp [execF] at h; obtain ⟨rfl, rfl⟩ := h
      exact ⟨Nat.le_refl _, fun ρ w a hS hF hG hT hN hD n r hR Q hQ => wpIn_ret (hQ ρ a w hS (Step.refl _ _ _ _) hT rfl hD)⟩
    | refuse _ =>
      simp only [cc, Option.some.injEq] at hc; subst hc
      cases h
    | _ => cases hc

/-- A call of a function of the program's. -/
theorem top_sound (hdraw : DrawsOK P gs B) (hfns : FnsOK P gs fns) (hsum : SumOK P gs B sum) (hB : CrOK P gs B) {m f : Nat} {args : List AV} {H : AHeap} {nx : Pos} {v : AV} {H' : AHeap} {nx' : Pos}
    (h : top fns sum m f args H nx = some (v, H', nx')) : CallSpec P gs B f args H nx v H' nx' :=
  call_sound (exec_sound hdraw hfns hsum hB m).1 hfns hsum _ _ _ _ _ _ _ h
end
end Go.Abs

namespace Go.Abs

theorem samePos_eq {p q : Pos} (h : same1.samePos p q = true) : p = q := Pos.toNat_inj (Nat.eq_of_beq_eq_true h)

theorem samePos_refl (p : Pos) : same1.samePos p p = true := Nat.beq_refl _

theorem same1_eq {a b : AV} (h : same1 a b = true) : a = b := by
  unfold same1 at h
  split at h <;> first
    | rfl
    | (simp at h; rw [h]; done)
    | (simp at h; obtain ⟨rfl, rfl⟩ := h; rfl)
    | (simp at h; obtain ⟨rfl, rfl, rfl⟩ := h; rfl)
    | (rw [beqN_eq] at h; rw [of_decide_eq_true h])
    | (simp only [Bool.and_eq_true] at h; obtain ⟨h1, h2⟩ := h; rw [samePos_eq h1, Nat.eq_of_beq_eq_true h2])
    | (simp only [Bool.and_eq_true] at h; obtain ⟨⟨⟨⟨⟨h1, h2⟩, h3⟩, h4⟩, h5⟩, h6⟩ := h; rw [samePos_eq h1, Nat.eq_of_beq_eq_true h2, Nat.eq_of_beq_eq_true h3, eq_of_beq h4, Nat.eq_of_beq_eq_true h5, Nat.eq_of_beq_eq_true h6])
    | (rw [Nat.eq_of_beq_eq_true h])
    | cases h

theorem sameL_eq : ∀ {a b : List AV}, sameL a b = true → a = b
  | [], [], _ => rfl
  | x :: a, y :: b, h => by
    simp only [sameL, Bool.and_eq_true] at h
    rw [same1_eq h.1, sameL_eq h.2]
  | [], _ :: _, h => by cases h
  | _ :: _, [], h => by cases h

theorem same_eq {a b : AV} (h : same a b = true) : a = b := by
  unfold same at h
  split at h
  · rw [sameL_eq h]
  · exact same1_eq h

/-! ### What an operation looks at -/
section
variable {T T' : PT AV}

theorem ev_congr {x : AX} (h : ∀ p ∈ x.tm, PT.get p T = PT.get p T') : ev T x = ev T' x := by
  cases x with
  | t p => simp only [ev, h p (by simp [AX.tm])]
  | c v => rfl

theorem evs_congr {xs : List AX} (h : ∀ p ∈ xs.flatMap AX.tm, PT.get p T = PT.get p T') : xs.map (ev T) = xs.map (ev T') :=
  List.map_congr_left fun x hx => ev_congr fun p hp => h p (List.mem_flatMap.2 ⟨x, hx, hp⟩)

theorem evo_congr {x : Option AX} (h : ∀ p ∈ otm x, PT.get p T = PT.get p T') : x.map (ev T) = x.map (ev T') := by
  cases x with
  | none => rfl
  | some x => simp only [Option.map_some, ev_congr (x := x) h]

theorem fillA_congr : ∀ {ps : List (Nat × Nat × AX)} {z : List AV}, (∀ p ∈ ps.flatMap (fun q => q.2.2.tm), PT.get p T = PT.get p T') → fillA (ev T) ps z = fillA (ev T') ps z
  | [], z, _ => rfl
  | (off, n, x) :: ps, z, h => by
    have h1 : ev T x = ev T' x := ev_congr fun p hp => h p (by simp [hp])
    have h2 : ∀ z, fillA (ev T) ps z = fillA (ev T') ps z := fun z => fillA_congr fun p hp => h p (by rw [List.flatMap_cons]; exact List.mem_append_right _ hp)
    simp only [fillA, h1, h2]

theorem opA_congr {cf : CallR} {yf : YieldR} {H : AHeap} {nx : Pos} {op : AOp} (h : ∀ p ∈ op.tms, PT.get p T = PT.get p T') : opA cf yf (ev T) H nx op = opA cf yf (ev T') H nx op := by
  have q1 : ∀ {x : AX}, (∀ p ∈ x.tm, p ∈ op.tms) → ev T x = ev T' x := fun hx => ev_congr fun p hp => h p (hx p hp)
  have q2 : ∀ {xs : List AX}, (∀ p ∈ xs.flatMap AX.tm, p ∈ op.tms) → xs.map (ev T) = xs.map (ev T') := fun hx => evs_congr fun p hp => h p (hx p hp)
  have q3 : ∀ {x : Option AX}, (∀ p ∈ otm x, p ∈ op.tms) → x.map (ev T) = x.map (ev T') := fun hx => evo_congr fun p hp => h p (hx p hp)
  have q4 : ∀ {ps : List (Nat × Nat × AX)} {z : List AV}, (∀ p ∈ ps.flatMap (fun q => q.2.2.tm), p ∈ op.tms) → fillA (ev T) ps z = fillA (ev T') ps z := fun hx => fillA_congr fun p hp => h p (hx p hp)
  cases op <;> simp only [opA, puA, ldA, alA, stA]
  case mov x => rw [q1 (x := x) (fun p hp => by simp [AOp.tms, hp])]
  case pick c a b => rw [q1 (x := c) (fun p hp => by simp [AOp.tms, hp]), q1 (x := a) (fun p hp => by simp [AOp.tms, hp]), q1 (x := b) (fun p hp => by simp [AOp.tms, hp])]
  case box x => rw [q1 (x := x) (fun p hp => by simp [AOp.tms, hp])]
  case build z ps => rw [q4 (ps := ps) (fun p hp => by simpa [AOp.tms] using hp)]
  case mksl z l es ps => rw [q4 (ps := ps) (fun p hp => by simpa [AOp.tms] using hp)]
  case load ag n a => rw [q1 (x := a) (fun p hp => by simp [AOp.tms, hp])]
  case store n a x => rw [q1 (x := a) (fun p hp => by simp [AOp.tms, hp]), q1 (x := x) (fun p hp => by simp [AOp.tms, hp])]
  case nilchk x => rw [q1 (x := x) (fun p hp => by simp [AOp.tms, hp])]
  case bin o ek ks x y => rw [q1 (x := x) (fun p hp => by simp [AOp.tms, hp]), q1 (x := y) (fun p hp => by simp [AOp.tms, hp])]
  case un o x => rw [q1 (x := x) (fun p hp => by simp [AOp.tms, hp])]
  case cvi k x => rw [q1 (x := x) (fun p hp => by simp [AOp.tms, hp])]
  case cvs x => rw [q1 (x := x) (fun p hp => by simp [AOp.tms, hp])]
  case s2b x => rw [q1 (x := x) (fun p hp => by simp [AOp.tms, hp])]
  case b2s x => rw [q1 (x := x) (fun p hp => by simp [AOp.tms, hp])]
  case mkif t x => rw [q1 (x := x) (fun p hp => by simp [AOp.tms, hp])]
  case mkfn f fs cs => rw [q2 (xs := fs) (fun p hp => by simp only [AOp.tms]; exact List.mem_append_left _ hp), q2 (xs := cs) (fun p hp => by simp only [AOp.tms]; exact List.mem_append_right _ hp)]
  case slS n x lo hi => rw [q1 (x := x) (fun p hp => by simp [AOp.tms, hp]), q3 (x := lo) (fun p hp => by simp [AOp.tms, hp]), q3 (x := hi) (fun p hp => by simp [AOp.tms, hp])]
  case slStr x lo hi => rw [q1 (x := x) (fun p hp => by simp [AOp.tms, hp]), q3 (x := lo) (fun p hp => by simp [AOp.tms, hp]), q3 (x := hi) (fun p hp => by simp [AOp.tms, hp])]
  case slA l n x lo hi => rw [q1 (x := x) (fun p hp => by simp [AOp.tms, hp]), q3 (x := lo) (fun p hp => by simp [AOp.tms, hp]), q3 (x := hi) (fun p hp => by simp [AOp.tms, hp])]
  case fadr o x => rw [q1 (x := x) (fun p hp => by simp [AOp.tms, hp])]
  case fld ag o n x => rw [q1 (x := x) (fun p hp => by simp [AOp.tms, hp])]
  case ixS n x i => rw [q1 (x := x) (fun p hp => by simp [AOp.tms, hp]), q1 (x := i) (fun p hp => by simp [AOp.tms, hp])]
  case ixA l n x i => rw [q1 (x := x) (fun p hp => by simp [AOp.tms, hp]), q1 (x := i) (fun p hp => by simp [AOp.tms, hp])]
  case ixv ag l n x i => rw [q1 (x := x) (fun p hp => by simp [AOp.tms, hp]), q1 (x := i) (fun p hp => by simp [AOp.tms, hp])]
  case ixstr x i => rw [q1 (x := x) (fun p hp => by simp [AOp.tms, hp]), q1 (x := i) (fun p hp => by simp [AOp.tms, hp])]
  case extr i x => rw [q1 (x := x) (fun p hp => by simp [AOp.tms, hp])]
  case call g args => rw [q1 (x := g) (fun p hp => by simp [AOp.tms, hp]), q2 (xs := args) (fun p hp => by simp only [AOp.tms]; exact List.mem_append_right _ hp)]
  case len k x => rw [q1 (x := x) (fun p hp => by simp [AOp.tms, hp])]
  case cap x => rw [q1 (x := x) (fun p hp => by simp [AOp.tms, hp])]
  case ext q xs => rw [q2 (xs := xs) (fun p hp => by simpa only [AOp.tms] using hp)]
  case app n b s x => rw [q1 (x := s) (fun p hp => by simp [AOp.tms, hp]), q1 (x := x) (fun p hp => by simp [AOp.tms, hp])]

theorem wantA_congr {g : Option (Pos × Bool)} (h : ∀ p w, g = some (p, w) → PT.get p T = PT.get p T') : wantA T g = wantA T' g := by
  cases g with
  | none => rfl
  | some q => obtain ⟨p, w⟩ := q; simp only [wantA, h p w rfl]
end

/-! ### Loads, in a heap that knows the names in use -/
theorem ld_mapped {P : Program} {gs : List Nat} {ρ : Env} {e : AX → AV} {η : Operand → Value} {o : Oper} {ao : AOp} {S H : AHeap} {v : AV} (hE : Evs gs ρ e η) (hc : cop P gs o = some ao) (hp : ldA e S ao = some v)
    (hm : ∀ id k, ρ id ≠ none → PT.get id S = some k → PT.get id H = some k) : ldA e H ao = some v := by
  have hp0 := hp
  unfold ldA at hp
  split at hp
  · rename_i ag n a
    obtain ⟨t, x, ho, h1, h2, h3⟩ := cop_load hc
    have rx := hE _ _ h3
    split at hp
    · rename_i id off hex
      rw [hex] at rx
      simp only [Rel] at rx
      obtain ⟨b, o', m, r1, r2⟩ := rx
      split at hp
      · rename_i ro l hg
        have hg' := hm id _ (by rw [r1]; simp) hg
        simp only [ldA, hex, hg'] at hp0 ⊢
        simp only [hg] at hp0
        exact hp0
      · cases hp
    · cases hp
  · rename_i len s ax al ah
    obtain ⟨t, x, lo, hi, el, ho, hu, hs, h1, h2, h3⟩ := cop_slA hc
    have rx := hE _ _ h1
    split at hp
    · rename_i id off hex
      rw [hex] at rx
      simp only [Rel] at rx
      obtain ⟨b, o', m, r1, r2⟩ := rx
      split at hp
      · rename_i ro l hg
        have hg' := hm id _ (by rw [r1]; simp) hg
        simp only [ldA, hex, hg'] at hp0 ⊢
        simp only [hg] at hp0
        exact hp0
      · cases hp
    · cases hp
  · rename_i ax
    obtain ⟨src, dst, x, el, ho, hs, hd, he, hx⟩ := cop_b2s hc
    have rx := hE _ _ hx
    split at hp
    · rename_i hex
      simp only [ldA, hex] at hp0 ⊢
      exact hp0
    · rename_i id off len ex cap es hex
      rw [hex] at rx
      simp only [Rel] at rx
      obtain ⟨b, o', m, c, r1, r2⟩ := rx
      split at hp
      · rename_i he1
        split at hp
        · rename_i ro l hg
          have hg' := hm id _ (by rw [r1]; simp) hg
          simp only [ldA, hex, hg'] at hp0 ⊢
          simp only [hg] at hp0
          exact hp0
        · cases hp
      · cases hp
    · cases hp
  · cases hp

end Go.Abs

namespace Go.Abs
section
variable {B : Base} {ρ ρ' : Env} {H H1 H' H1' : AHeap} {w w' : World} {nx nx' : Pos}

/-- Part of a heap. -/
def Sub (H1 H : AHeap) : Prop := ∀ id k, PT.get id H1 = some k → PT.get id H = some k

theorem Sub.refl (H : AHeap) : Sub H H := fun _ _ h => h

theorem Sim.sub (h : Sim B ρ H w) (hs : Sub H1 H) : Sim B ρ H1 w where
  base := h.base
  cells := fun id ro l e => h.cells id ro l (hs _ _ e)
  objs := fun id k e => h.objs id k (hs _ _ e)
  inj := fun i j x y b o p e1 e2 => h.inj i j x y b o p (hs _ _ e1) (hs _ _ e2)
  low := h.low

theorem Own.sub (hs : Sub H1 H) {b : Nat} (h : Own ρ H1 b) : Own ρ H b := by
  obtain ⟨id, k, o, e1, e2, e3⟩ := h
  exact ⟨id, k, o, hs _ _ e1, e2, e3⟩

theorem Step.sub (h : Step ρ H nx w ρ' H' nx' w') (hs : Sub H1' H') : Step ρ H nx w ρ' H1' nx' w' where
  ext := h.ext
  fresh := h.fresh
  size := h.size
  os := h.os
  tape := h.tape
  output := h.output
  frame := h.frame
  orig := fun b o => h.orig b (o.sub hs)
  dom := fun id k e => h.dom id k (hs _ _ e)

/-- Two steps whose new names lie in one stretch. -/
theorem Step.join {ρ1 ρ2 : Env} {H2 : AHeap} {w1 w2 : World} {lo a b hi : Pos} (h : Step ρ H lo w ρ1 H1 hi w1) (k : Step ρ1 H1 a w1 ρ2 H2 b w2) (l1 : lo.toNat ≤ a.toNat) (l2 : b.toNat ≤ hi.toNat) :
    Step ρ H lo w ρ2 H2 hi w2 where
  ext := Env.le_trans h.ext k.ext
  fresh := fun id e e2 => by
    by_cases e1 : ρ1 id = none
    · have := k.fresh id e1 e2; omega
    · exact h.fresh id e e1
  size := Nat.le_trans h.size k.size
  os := k.os.trans h.os
  tape := k.tape.trans h.tape
  output := k.output.trans h.output
  frame := fun b hb ho => by
    rw [k.frame b (Nat.lt_of_lt_of_le hb h.size) (fun o => ho (h.orig b o hb))]
    exact h.frame b hb ho
  orig := fun b o hb => h.orig b (k.orig b o (Nat.lt_of_lt_of_le hb h.size)) hb
  dom := fun id b e => by
    rcases k.dom id b e with ⟨k0, e1⟩ | q
    · rcases h.dom id k0 e1 with q | q
      · exact .inl q
      · exact .inr q
    · exact .inr ⟨by omega, by omega⟩

theorem Sim.mapd (h : Sim B ρ H w) {id : Pos} {k : Blk} (e : PT.get id H = some k) : ρ id ≠ none := by
  by_cases hk : k.isCells = true
  · cases k with
    | cells ro l => obtain ⟨b, o, m, q, _⟩ := h.cells id ro l e; rw [q]; simp
    | loop => cases hk
    | dfr => cases hk
    | mp => cases hk
    | sit => cases hk
  · obtain ⟨b, m, o, q, _⟩ := h.objs id k e (by simpa using hk); rw [q]; simp

/-- What H' is: the outcome of the step on a part, and the rest as it was. -/
def Rest (H H1 H1' H' : AHeap) : Prop := ∀ id k, PT.get id H' = some k → PT.get id H1' = some k ∨ (PT.get id H1 = none ∧ PT.get id H = some k ∧ k.ro = false ∧ k.isCells = true)

theorem rest_block (hS : Sim B ρ H w) (hsub : Sub H1 H) (hst : Step ρ H1 nx w ρ' H1' nx' w') {id : Pos} {k : Blk} (h1 : PT.get id H1 = none) (h2 : PT.get id H = some k) {b : Nat} {o : Nat × Nat} (r : ρ id = some (b, o)) : w'.heap[b]? = w.heap[b]? := by
  have hb : b < w.heap.size := hS.blk_lt h2 r
  refine hst.frame b hb fun ho => ?_
  obtain ⟨i, x, p, e1, _, e3⟩ := ho
  have hne : i ≠ id := fun q => by subst q; rw [h1] at e1; cases e1
  exact hS.inj i id _ _ _ _ _ (hsub _ _ e1) h2 hne e3 r

theorem glue (hS : Sim B ρ H w) (hsub : Sub H1 H) (hst : Step ρ H1 nx w ρ' H1' nx' w') (hS' : Sim B ρ' H1' w') (hR : Rest H H1 H1' H') :
    Sim B ρ' H' w' ∧ Step ρ H nx w ρ' H' nx' w' := by
  have cross : ∀ (i j : Pos) (x y : Blk) (b : Nat) (o p : Nat × Nat), PT.get i H1' = some x → PT.get j H1 = none → PT.get j H = some y → y.ro = false → y.isCells = true → i ≠ j → ρ' i = some (b, o) → ρ' j = some (b, p) → False := by
    intro i j x y b o p e1 e2 e3 hro hcl hne r1 r2
    -- j lay there before
    have hj := hS.mapd e3
    obtain ⟨⟨b0, p0⟩, hj0⟩ := Option.ne_none_iff_exists'.1 hj
    have hj1 := hst.ext _ _ hj0
    rw [r2] at hj1; cases hj1
    have hb : b < w.heap.size := hS.blk_lt e3 hj0
    rcases hst.dom i x e1 with ⟨x0, q⟩ | q
    · have hi := hS.mapd (hsub _ _ q)
      obtain ⟨⟨b1, o1⟩, hi0⟩ := Option.ne_none_iff_exists'.1 hi
      have hi1 := hst.ext _ _ hi0
      rw [r1] at hi1; cases hi1
      exact hS.inj i j _ _ _ _ _ (hsub _ _ q) e3 hne hi0 hj0
    · by_cases hx : x.ro = false
      · obtain ⟨i2, x2, o2, q1, q2, q3⟩ := hst.orig b ⟨i, x, o, e1, hx, r1⟩ hb
        have hne2 : i2 ≠ j := fun q => by subst q; rw [e2] at q1; cases q1
        exact hS.inj i2 j _ _ _ _ _ (hsub _ _ q1) e3 hne2 q3 hj0
      · cases x with
        | cells ro l =>
          have hro' : ro = true := by simpa [Blk.ro] using hx
          obtain ⟨b2, o2, m2, q1, _, q3, _⟩ := hS'.cells i ro l e1
          rw [r1] at q1; cases q1
          have h1 := q3.old hro'
          cases y with
          | cells ro2 l2 =>
            obtain ⟨b3, o3, m3, q4, _, q6, _⟩ := hS.cells j ro2 l2 e3
            rw [hj0] at q4; cases q4
            have := q6.own (by simpa [Blk.ro] using hro)
            omega
          | loop => cases hcl
          | dfr => cases hcl
          | mp => cases hcl
          | sit => cases hcl
        | loop => exact hx rfl
        | dfr => exact hx rfl
        | mp => exact hx rfl
        | sit => exact hx rfl
  refine ⟨⟨hS'.base, fun id ro l e => ?_, fun id k e hk => ?_, fun i j x y b o p e1 e2 hne r1 r2 => ?_, hS'.low⟩, ?_⟩
  · rcases hR id _ e with e | ⟨e1, e2, _, _⟩
    · exact hS'.cells id ro l e
    · obtain ⟨b, o, m, q1, q2, q3, q4, q5, q6⟩ := hS.cells id ro l e2
      have hb := rest_block hS hsub hst e1 e2 q1
      have hc : ∀ i, w'.cell? ⟨b, i, none⟩ = w.cell? ⟨b, i, none⟩ := fun i => by unfold World.cell?; rw [hb]
      have hf : ∀ i, w'.frozen? ⟨b, i, none⟩ = w.frozen? ⟨b, i, none⟩ := fun i => by unfold World.frozen?; rw [hb]
      refine ⟨b, o, m, hst.ext _ _ q1, Nat.lt_of_lt_of_le q2 hst.size, q3, fun i v hv => ?_, q5, fun hro i hi => ?_⟩
      · rw [hc]; obtain ⟨c, c1, c2⟩ := q4 i v hv; exact ⟨c, c1, c2.mono hst.ext⟩
      · rw [hc, hf]; exact q6 hro i hi
  · rcases hR id _ e with e | ⟨e1, e2, _, hk'⟩
    · exact hS'.objs id k e hk
    · rw [hk] at hk'; cases hk'
  · rcases hR i _ e1 with e1 | ⟨a1, a2, a3, a4⟩
    · rcases hR j _ e2 with e2 | ⟨b1, b2, b3, b4⟩
      · exact hS'.inj i j x y b o p e1 e2 hne r1 r2
      · exact cross i j x y b o p e1 b1 b2 b3 b4 hne r1 r2
    · rcases hR j _ e2 with e2 | ⟨b1, b2, b3, b4⟩
      · exact cross j i y x b p o e2 a1 a2 a3 a4 (Ne.symm hne) r2 r1
      · obtain ⟨⟨c1, d1⟩, hi0⟩ := Option.ne_none_iff_exists'.1 (hS.mapd a2)
        obtain ⟨⟨c2, d2⟩, hj0⟩ := Option.ne_none_iff_exists'.1 (hS.mapd b2)
        have hi1 := hst.ext _ _ hi0
        have hj1 := hst.ext _ _ hj0
        rw [r1] at hi1; cases hi1
        rw [r2] at hj1; cases hj1
        exact hS.inj i j x y b o p a2 b2 hne hi0 hj0
  · refine ⟨hst.ext, hst.fresh, hst.size, hst.os, hst.tape, hst.output, fun b hb ho => hst.frame b hb fun q => ho (q.sub hsub), fun b ho hb => ?_, fun id k e => ?_⟩
    · obtain ⟨id, k, o, e1, e2, e3⟩ := ho
      rcases hR id _ e1 with e | ⟨a1, a2, a3, a4⟩
      · exact (hst.orig b ⟨id, k, o, e, e2, e3⟩ hb).sub hsub
      · obtain ⟨⟨c1, d1⟩, hi0⟩ := Option.ne_none_iff_exists'.1 (hS.mapd a2)
        have hi1 := hst.ext _ _ hi0
        rw [e3] at hi1; cases hi1
        exact ⟨id, k, o, a2, a3, hi0⟩
    · rcases hR id _ e with e | ⟨a1, a2, a3, a4⟩
      · rcases hst.dom id k e with ⟨k0, q⟩ | q
        · exact .inl ⟨k0, hsub _ _ q⟩
        · exact .inr q
      · exact .inl ⟨k, a2⟩
end
end Go.Abs

namespace Go.Abs

/-! ### The states of the chosen order -/
structure Tr (cf : CallR) (yf : YieldR) (dl : List (Nat × Nat × AOper)) (t : Nat → PT AV) (h : Nat → AHeap) (x : Nat → Pos) (v : Nat → AV) (sn : Nat → List AHeap) : Prop where
  tmp : ∀ c s k o, dl[c]? = some (s, k, o) → t (c + 1) = putT o.dst (v c) (t c)
  snap : ∀ c s k o, dl[c]? = some (s, k, o) → sn (c + 1) = if s = 3 then h c :: sn c else sn c
  step : ∀ c s k o, dl[c]? = some (s, k, o) →
    (wantA (t c) o.guard = some true ∧ opA cf yf (ev (t c)) (h c) (x c) o.op = some (v c, h (c + 1), x (c + 1)) ∧ (s = 1 → lookBack (ev (t c)) o.op (v c) k (sn c) = true)) ∨
    (wantA (t c) o.guard = some false ∧ v c = undefA ∧ h (c + 1) = h c ∧ x (c + 1) = x c)

def cons0 {α : Type} (a : α) (f : Nat → α) : Nat → α
  | 0 => a
  | n + 1 => f n

theorem drw_trace {cf : CallR} {yf : YieldR} : ∀ (dl : List (Nat × Nat × AOper)) (Ss : List AHeap) (T : PT AV) (H : AHeap) (nx : Pos) (T' : PT AV) (H' : AHeap) (nx' : Pos), drwA cf yf dl Ss T H nx = some (T', H', nx') →
    ∃ t h x v sn, Tr cf yf dl t h x v sn ∧ t 0 = T ∧ h 0 = H ∧ x 0 = nx ∧ sn 0 = Ss ∧ t dl.length = T' ∧ h dl.length = H' ∧ x dl.length = nx'
  | [], Ss, T, H, nx, T', H', nx', e => by
    simp [drwA] at e
    obtain ⟨rfl, rfl, rfl⟩ := e
    exact ⟨fun _ => T, fun _ => H, fun _ => nx, fun _ => undefA, fun _ => Ss, ⟨(fun _ _ _ _ e => by simp at e), (fun _ _ _ _ e => by simp at e), (fun _ _ _ _ e => by simp at e)⟩, rfl, rfl, rfl, rfl, rfl, rfl, rfl⟩
  | (s, k, o) :: dl, Ss, T, H, nx, T', H', nx', e => by
    have key : ∀ (u : AV) (H1 : AHeap) (nx1 : Pos), ((wantA T o.guard = some true ∧ opA cf yf (ev T) H nx o.op = some (u, H1, nx1) ∧ (s = 1 → lookBack (ev T) o.op u k Ss = true)) ∨ (wantA T o.guard = some false ∧ u = undefA ∧ H1 = H ∧ nx1 = nx)) →
        drwA cf yf dl (if s = 3 then H :: Ss else Ss) (putT o.dst u T) H1 nx1 = some (T', H', nx') → ∃ t h x v sn, Tr cf yf ((s, k, o) :: dl) t h x v sn ∧ t 0 = T ∧ h 0 = H ∧ x 0 = nx ∧ sn 0 = Ss ∧ t (dl.length + 1) = T' ∧ h (dl.length + 1) = H' ∧ x (dl.length + 1) = nx' := by
      intro u H1 nx1 hstep hrest
      obtain ⟨t, h, x, v, sn, tr, t0, h0, x0, s0, t1, h1, x1⟩ := drw_trace dl _ _ _ _ _ _ _ hrest
      refine ⟨cons0 T t, cons0 H h, cons0 nx x, cons0 u v, cons0 Ss sn, ⟨fun c s' k' o' e' => ?_, fun c s' k' o' e' => ?_, fun c s' k' o' e' => ?_⟩, rfl, rfl, rfl, rfl, t1, h1, x1⟩
      · cases c with
        | zero => simp at e'; obtain ⟨rfl, rfl, rfl⟩ := e'; exact t0
        | succ c => exact tr.tmp c s' k' o' (by simpa using e')
      · cases c with
        | zero => simp at e'; obtain ⟨rfl, rfl, rfl⟩ := e'; exact s0
        | succ c => exact tr.snap c s' k' o' (by simpa using e')
      · cases c with
        | zero => simp at e'; obtain ⟨rfl, rfl, rfl⟩ := e'; simp only [cons0, h0, x0]; exact hstep
        | succ c => exact tr.step c s' k' o' (by simpa using e')
    simp only [drwA] at e
    split at e
    · rename_i hw
      split at e
      · rename_i u H1 nx1 hop
        split at e
        · split at e
          · rename_i hl
            exact key u H1 nx1 (.inl ⟨hw, hop, fun _ => hl⟩) (by simpa using e)
          · cases e
        · exact key u H1 nx1 (.inl ⟨hw, hop, fun h => by cases h⟩) (by simpa using e)
        · rename_i h1 h3
          exact key u H1 nx1 (.inl ⟨hw, hop, fun h => absurd h h1⟩) (by rw [if_neg h3]; exact e)
      · cases e
    · rename_i hw
      split at e
      · exact key undefA H nx (.inr ⟨hw, rfl, rfl, rfl⟩) (by simpa using e)
      · rename_i h3
        exact key undefA H nx (.inr ⟨hw, rfl, rfl, rfl⟩) (by rw [if_neg h3]; exact e)
    · cases e

/-! ### The check -/
theorem okAll_pair : ∀ (E acc acc3 : List Ent), okAll E acc acc3 = true → (∀ a ∈ acc, ∀ b ∈ E, okPair a b = true) ∧ ∀ (c d : Nat) (a b : Ent), c < d → E[c]? = some a → E[d]? = some b → okPair a b = true
  | [], _, _, _ => ⟨fun _ _ _ h => by simp at h, fun _ _ _ _ _ h => by simp at h⟩
  | e :: E, acc, acc3, h => by
    simp only [okAll, Bool.and_eq_true] at h
    obtain ⟨⟨h1, _⟩, h3⟩ := h
    obtain ⟨q1, q2⟩ := okAll_pair E _ _ h3
    refine ⟨fun a ha b hb => ?_, fun c d a b hcd hc hd => ?_⟩
    · rcases List.mem_cons.1 hb with rfl | hb
      · exact List.all_eq_true.1 h1 a ha
      · exact q1 a (List.mem_cons_of_mem _ ha) b hb
    · cases d with
      | zero => omega
      | succ d =>
        simp only [List.getElem?_cons_succ] at hd
        cases c with
        | zero =>
          simp at hc; subst hc
          exact q1 _ (by simp) b (List.mem_of_getElem? hd)
        | succ c => exact q2 c d a b (by omega) (by simpa using hc) hd

/-- The operations of sort 3 before a place, the latest first. -/
def acc3 (E : List Ent) (c : Nat) : List Ent := ((E.take c).filter fun e => decide (e.s = 3)).reverse

theorem okAll_load : ∀ (E acc a3 : List Ent), okAll E acc a3 = true → ∀ (c : Nat) (b : Ent), E[c]? = some b → b.s = 1 → ((acc3 E c ++ a3).drop b.k).all (fun a => b.m.testBit a.i) = true
  | [], _, _, _, _, _, h, _ => by simp at h
  | e :: E, acc, a3, h, c, b, hc, hb => by
    simp only [okAll, Bool.and_eq_true] at h
    obtain ⟨⟨_, h2⟩, h3⟩ := h
    cases c with
    | zero =>
      simp at hc; subst hc
      rw [if_pos hb] at h2
      simpa [acc3] using h2
    | succ c =>
      have := okAll_load E _ _ h3 c b (by simpa using hc) hb
      have hq : acc3 (e :: E) (c + 1) ++ a3 = acc3 E c ++ (if e.s = 3 then e :: a3 else a3) := by
        simp only [acc3, List.take_succ_cons, List.filter_cons]
        by_cases he : e.s = 3
        · simp [he]
        · simp [he]
      rw [hq]; exact this

theorem acc3_succ {E : List Ent} {c : Nat} {e : Ent} (h : E[c]? = some e) : acc3 E (c + 1) = if e.s = 3 then e :: acc3 E c else acc3 E c := by
  simp only [acc3, List.take_add_one, h, Option.toList_some, List.filter_append, List.reverse_append]
  by_cases he : e.s = 3
  · simp [he]
  · simp [he]

/-- The states before, side by side with the operations that they were before. -/
theorem snaps {cf : CallR} {yf : YieldR} {E : List Ent} {t : Nat → PT AV} {h : Nat → AHeap} {x : Nat → Pos} {v : Nat → AV} {sn : Nat → List AHeap} (tr : Tr cf yf (E.map fun e => (e.s, e.k, e.o)) t h x v sn) :
    ∀ (c : Nat), c ≤ E.length → ∀ (d : Nat) (a : Ent), d < c → E[d]? = some a → a.s = 3 → ∃ r : Nat, (acc3 E c)[r]? = some a ∧ (sn c)[r]? = some (h d)
  | 0, _, _, _, hd, _, _ => by omega
  | c + 1, hc, d, a, hd, ha, h3 => by
    obtain ⟨e, he⟩ : ∃ e, E[c]? = some e := ⟨E[c], List.getElem?_eq_getElem (by omega)⟩
    have hs := tr.snap c e.s e.k e.o (by simp [he])
    rw [acc3_succ he, hs]
    by_cases hdc : d = c
    · subst hdc
      rw [he] at ha; cases ha
      rw [if_pos h3, if_pos h3]
      exact ⟨0, rfl, rfl⟩
    · obtain ⟨r, r1, r2⟩ := snaps tr c (by omega) d a (by omega) ha h3
      by_cases he3 : e.s = 3
      · rw [if_pos he3, if_pos he3]; exact ⟨r + 1, r1, r2⟩
      · rw [if_neg he3, if_neg he3]; exact ⟨r, r1, r2⟩

theorem lookBack_spec {e : AX → AV} {op : AOp} {v : AV} : ∀ {k : Nat} {Ss : List AHeap}, lookBack e op v k Ss = true → ∀ (r : Nat) (S : AHeap), r < k → Ss[r]? = some S → ldA e S op = some v
  | 0, _, _, _, _, hr, _ => by omega
  | k + 1, [], h, _, _, _, _ => by simp [lookBack] at h
  | k + 1, S0 :: Ss, h, r, S, hr, hS => by
    simp only [lookBack] at h
    split at h
    · rename_i u hu
      split at h
      · rename_i hsame
        cases r with
        | zero => simp at hS; subst hS; rw [hu, same_eq hsame]
        | succ r => exact lookBack_spec h r S (by omega) (by simpa using hS)
      · cases h
    · cases h

/-! ### What surely comes before -/
theorem edgeMask_bit {ms : List Nat} {j : Nat} : ∀ (es : List Edge) (s0 : Nat), (es.foldl (fun s e => if Region.binds .any e && decide (e.on < ms.length) then s ||| 2 ^ e.on ||| ms.getD e.on 0 else s) s0).testBit j = true →
    s0.testBit j = true ∨ ∃ e ∈ es, Region.binds .any e = true ∧ e.on < ms.length ∧ (e.on = j ∨ (ms.getD e.on 0).testBit j = true)
  | [], s0, h => .inl h
  | e :: es, s0, h => by
    simp only [List.foldl_cons] at h
    rcases edgeMask_bit es _ h with h | ⟨e', he, q⟩
    · split at h
      · rename_i hb
        simp only [Bool.and_eq_true, decide_eq_true_eq] at hb
        simp only [Nat.testBit_or, Bool.or_eq_true, Nat.testBit_two_pow, decide_eq_true_eq] at h
        rcases h with (h | h) | h
        · exact .inl h
        · exact .inr ⟨e, by simp, hb.1, hb.2, .inl h⟩
        · exact .inr ⟨e, by simp, hb.1, hb.2, .inr h⟩
      · exact .inl h
    · exact .inr ⟨e', by simp [he], q⟩

theorem masks_spec : ∀ (os : List Oper) (ms : List Nat), ∃ r, masks os ms = ms ++ r ∧ r.length = os.length ∧ ∀ k o, os[k]? = some o → r[k]? = some (edgeMask (ms ++ r.take k) o.after.toList)
  | [], ms => ⟨[], by simp [masks], rfl, fun _ _ h => by simp at h⟩
  | o :: os, ms => by
    obtain ⟨r, e1, e2, e3⟩ := masks_spec os (ms ++ [edgeMask ms o.after.toList])
    refine ⟨edgeMask ms o.after.toList :: r, by simp [masks, e1], by simp [e2], fun k o' h => ?_⟩
    cases k with
    | zero => simp at h; subst h; simp
    | succ k =>
      have := e3 k o' (by simpa using h)
      simpa using this

theorem mask_ok {ops : Array Oper} {i j : Nat} {o : Oper} (ho : ops[i]? = some o) (h : ((masks ops.toList []).getD i 0).testBit j = true) :
    ∃ e ∈ o.after, Region.binds .any e = true ∧ e.on < i ∧ (e.on = j ∨ ((masks ops.toList []).getD e.on 0).testBit j = true) := by
  obtain ⟨r, e1, e2, e3⟩ := masks_spec ops.toList []
  simp only [List.nil_append] at e1 e3
  rw [e1] at h ⊢
  have hr := e3 i o (by simpa using ho)
  have hi : i < r.length := (List.getElem?_eq_some_iff.1 hr).1
  have hg : r.getD i 0 = edgeMask (r.take i) o.after.toList := by rw [List.getD_eq_getElem?_getD, hr]; rfl
  rw [hg] at h
  rcases edgeMask_bit _ _ h with h | ⟨e, he, b1, b2, b3⟩
  · simp at h
  · have hlt : e.on < i := by simp at b2; omega
    refine ⟨e, by simpa using he, b1, hlt, ?_⟩
    have : (r.take i).getD e.on 0 = r.getD e.on 0 := by
      rw [List.getD_eq_getElem?_getD, List.getD_eq_getElem?_getD, List.getElem?_take_of_lt hlt]
    rw [this] at b3
    exact b3

/-- What is done is closed under what surely comes before. -/
def Closed (ops : Array Oper) (listed : Array Bool) : Prop := ∀ i o, listed.getD i false = true → ops[i]? = some o → ∀ e ∈ o.after, Region.binds .any e = true → listed.getD e.on false = true

theorem anc_done {ops : Array Oper} {listed : Array Bool} (hc : Closed ops listed) (hin : ∀ i, listed.getD i false = true → ∃ o, ops[i]? = some o) : ∀ (i j : Nat), listed.getD i false = true → ((masks ops.toList []).getD i 0).testBit j = true → listed.getD j false = true := by
  intro i
  induction i using Nat.strongRecOn with
  | _ i ih =>
    intro j hi hj
    obtain ⟨o, ho⟩ := hin i hi
    obtain ⟨e, he, b1, b2, b3⟩ := mask_ok ho hj
    have hd := hc i o hi ho e he b1
    rcases b3 with rfl | b3
    · exact hd
    · exact ih e.on b2 j hd b3

theorem anc_ready {ops : Array Oper} {listed : Array Bool} (hc : Closed ops listed) (hin : ∀ i, listed.getD i false = true → ∃ o, ops[i]? = some o) {i j : Nat} (hr : i ∈ Region.ready .any ops listed)
    (hj : ((masks ops.toList []).getD i 0).testBit j = true) : listed.getD j false = true := by
  obtain ⟨_, o, ho, hall⟩ := mem_ready.1 hr
  obtain ⟨e, he, b1, b2, b3⟩ := mask_ok ho hj
  have hd := hall e he b1
  rcases b3 with rfl | b3
  · exact hd
  · exact anc_done hc hin e.on j hd b3
end Go.Abs

namespace Go.Abs

theorem opA_sort0 {cf : CallR} {yf : YieldR} {e : AX → AV} {H : AHeap} {nx : Pos} {op : AOp} {u : AV} {H' : AHeap} {nx' : Pos} (hs : op.sort = 0) (h : opA cf yf e H nx op = some (u, H', nx')) :
    H' = H ∧ nx' = nx ∧ ∀ H2, opA cf yf e H2 nx op = some (u, H2, nx) := by
  cases op
  case ext q xs =>
    cases q <;> simp [AOp.sort, XOp.sort] at hs
    simp only [opA, extA] at h ⊢
    split at h
    · simp only [Option.some.injEq, Prod.mk.injEq] at h
      obtain ⟨rfl, rfl, rfl⟩ := h
      exact ⟨rfl, rfl, fun _ => rfl⟩
    · simp only [Option.some.injEq, Prod.mk.injEq] at h
      obtain ⟨rfl, rfl, rfl⟩ := h
      exact ⟨rfl, rfl, fun _ => rfl⟩
    · cases h
  all_goals first
    | (simp [AOp.sort] at hs; done)
    | (simp only [opA] at h ⊢
       split at h
       · rename_i w hw
         simp only [Option.some.injEq, Prod.mk.injEq] at h
         obtain ⟨rfl, rfl, rfl⟩ := h
         exact ⟨rfl, rfl, fun _ => by first | rfl | rw [hw]⟩
       · cases h)

theorem opA_sort1 {cf : CallR} {yf : YieldR} {e : AX → AV} {H : AHeap} {nx : Pos} {op : AOp} {u : AV} {H' : AHeap} {nx' : Pos} (hs : op.sort = 1) (h : opA cf yf e H nx op = some (u, H', nx')) :
    H' = H ∧ nx' = nx ∧ ldA e H op = some u ∧ ∀ H2 u2, ldA e H2 op = some u2 → opA cf yf e H2 nx op = some (u2, H2, nx) := by
  cases op
  case ext q xs => cases q <;> simp [AOp.sort, XOp.sort] at hs
  all_goals first
    | (simp [AOp.sort] at hs; done)
    | (simp only [opA] at h ⊢
       split at h
       · rename_i w hw
         simp only [Option.some.injEq, Prod.mk.injEq] at h
         obtain ⟨rfl, rfl, rfl⟩ := h
         exact ⟨rfl, rfl, hw, fun _ _ q => by first | rw [q] | simp [q]⟩
       · cases h)

theorem opA_sort2 {cf : CallR} {yf : YieldR} {e : AX → AV} {H : AHeap} {nx : Pos} {op : AOp} {u : AV} {H' : AHeap} {nx' : Pos} (hs : op.sort = 2) (h : opA cf yf e H nx op = some (u, H', nx')) :
    ∃ l, H' = PT.put nx (some (.cells false l)) H ∧ nx' = nx.succ ∧ ∀ H2, opA cf yf e H2 nx op = some (u, PT.put nx (some (.cells false l)) H2, nx.succ) := by
  cases op
  case ext q xs =>
    cases q <;> simp [AOp.sort, XOp.sort] at hs
    · simp only [opA, extA] at h ⊢
      split at h
      · split at h
        · rename_i hle
          simp only [Option.some.injEq, Prod.mk.injEq] at h
          obtain ⟨rfl, rfl, rfl⟩ := h
          exact ⟨_, rfl, rfl, fun _ => by first | rfl | rw [if_pos hle]⟩
        · cases h
      · cases h
    · simp only [opA, extA] at h ⊢
      split at h
      · simp only [Option.some.injEq, Prod.mk.injEq] at h
        obtain ⟨rfl, rfl, rfl⟩ := h
        exact ⟨_, rfl, rfl, fun _ => rfl⟩
      · cases h
  all_goals first
    | (simp [AOp.sort] at hs; done)
    | (simp only [opA] at h ⊢
       simp only [Option.some.injEq, Prod.mk.injEq] at h
       obtain ⟨rfl, rfl, rfl⟩ := h
       exact ⟨_, rfl, rfl, fun _ => rfl⟩)
    | (simp only [opA] at h ⊢
       split at h
       · rename_i l r hw
         simp only [Option.some.injEq, Prod.mk.injEq] at h
         obtain ⟨rfl, rfl, rfl⟩ := h
         exact ⟨l, rfl, rfl, fun _ => by first | rfl | rw [hw]⟩
       · cases h)

theorem sort_cases (op : AOp) : op.sort = 0 ∨ op.sort = 1 ∨ op.sort = 2 ∨ op.sort = 3 := by
  cases op <;> simp [AOp.sort]
  rename_i q _
  cases q <;> simp [XOp.sort]

theorem ldA_congr {T T' : PT AV} {H : AHeap} {op : AOp} (h : ∀ p ∈ op.tms, PT.get p T = PT.get p T') : ldA (ev T) H op = ldA (ev T') H op := by
  cases op <;> simp only [ldA]
  case load ag n a => rw [ev_congr (x := a) (fun p hp => h p (by simp [AOp.tms, hp]))]
  case slA l n x lo hi => rw [ev_congr (x := x) (fun p hp => h p (by simp [AOp.tms, hp])), evo_congr (x := lo) (fun p hp => h p (by simp [AOp.tms, hp])), evo_congr (x := hi) (fun p hp => h p (by simp [AOp.tms, hp]))]
  case b2s x => rw [ev_congr (x := x) (fun p hp => h p (by simp [AOp.tms, hp]))]

theorem get_putT (d : Option Pos) (u : AV) (T : PT AV) (p : Pos) : (d = some p ∧ PT.get p (putT d u T) = some u) ∨ (d ≠ some p ∧ PT.get p (putT d u T) = PT.get p T) := by
  cases d with
  | none => exact .inr ⟨by simp, rfl⟩
  | some q =>
    by_cases h : p = q
    · subst h; exact .inl ⟨rfl, PT.get_put_same _ _ _⟩
    · exact .inr ⟨by simpa using Ne.symm h, PT.get_put_other _ _ _ _ h⟩

theorem RelA.congr {ρ : Env} {T T' : PT AV} {tmps : Array Value} (h : ∀ p, PT.get p T = PT.get p T') (r : RelA ρ T tmps) : RelA ρ T' tmps := fun t => by
  have := r t
  simp only [evT, h] at this
  exact this

/-! ### Temporaries that only some have written -/
def fT (E : List Ent) (v : Nat → AV) (T0 : PT AV) (q : Nat → Bool) : Nat → PT AV
  | 0 => T0
  | m + 1 => match E[m]? with
    | some e => if q m then putT e.o.dst (v m) (fT E v T0 q m) else fT E v T0 q m
    | none => fT E v T0 q m

section
variable {E : List Ent} {v : Nat → AV} {T0 : PT AV}

theorem fT_congr {q q' : Nat → Bool} {p : Pos} : ∀ m, (∀ d e, d < m → E[d]? = some e → e.o.dst = some p → q d = q' d) → PT.get p (fT E v T0 q m) = PT.get p (fT E v T0 q' m)
  | 0, _ => rfl
  | m + 1, h => by
    have ih := fT_congr m (fun d e hd => h d e (by omega))
    simp only [fT]
    cases he : E[m]? with
    | none => exact ih
    | some e =>
      simp only
      by_cases hp : e.o.dst = some p
      · rw [h m e (by omega) he hp]
        cases q' m
        · exact ih
        · simp only [if_true]
          rcases get_putT e.o.dst (v m) (fT E v T0 q m) p with ⟨_, h1⟩ | ⟨h1, _⟩
          · rcases get_putT e.o.dst (v m) (fT E v T0 q' m) p with ⟨_, h2⟩ | ⟨h2, _⟩
            · rw [h1, h2]
            · exact absurd hp h2
          · exact absurd hp h1
      · have hq : ∀ (b : Bool) (T : PT AV), PT.get p (if b = true then putT e.o.dst (v m) T else T) = PT.get p T := by
          intro b T
          cases b
          · rfl
          · rcases get_putT e.o.dst (v m) T p with ⟨h1, _⟩ | ⟨_, h1⟩
            · exact absurd h1 hp
            · simpa using h1
        rw [hq, hq]; exact ih

theorem fT_put {q q' : Nat → Bool} {c : Nat} {e : Ent} (hc : E[c]? = some e) (h0 : q c = false) (h1 : q' c = true) (hq : ∀ d, d ≠ c → q' d = q d) (p : Pos)
    (hw : ∀ d e', c < d → E[d]? = some e' → e.o.dst = some p → e'.o.dst = some p → q d = false) : ∀ m, c < m → PT.get p (fT E v T0 q' m) = PT.get p (putT e.o.dst (v c) (fT E v T0 q m))
  | 0, h => by omega
  | m + 1, h => by
    by_cases hm : m = c
    · subst hm
      simp only [fT, hc, h0, h1, if_true, Bool.false_eq_true, if_false]
      have := fT_congr (E := E) (v := v) (T0 := T0) (q := q') (q' := q) (p := p) m (fun d e hd _ _ => hq d (by omega))
      rcases get_putT e.o.dst (v m) (fT E v T0 q' m) p with ⟨a1, a2⟩ | ⟨a1, a2⟩
      · rcases get_putT e.o.dst (v m) (fT E v T0 q m) p with ⟨_, b2⟩ | ⟨b1, _⟩
        · rw [a2, b2]
        · exact absurd a1 b1
      · rcases get_putT e.o.dst (v m) (fT E v T0 q m) p with ⟨b1, _⟩ | ⟨_, b2⟩
        · exact absurd b1 a1
        · rw [a2, b2]; exact this
    · have ih := fT_put hc h0 h1 hq p hw m (by omega)
      simp only [fT]
      cases he : E[m]? with
      | none => exact ih
      | some e' =>
        simp only [hq m hm]
        cases hqm : q m with
        | false => exact ih
        | true =>
          simp only [if_true]
          rcases get_putT e'.o.dst (v m) (fT E v T0 q' m) p with ⟨a1, a2⟩ | ⟨a1, a2⟩
          · rw [a2]
            rcases get_putT e.o.dst (v c) (putT e'.o.dst (v m) (fT E v T0 q m)) p with ⟨b1, b2⟩ | ⟨b1, b2⟩
            · have := hw m e' (by omega) he b1 a1
              rw [hqm] at this; cases this
            · rw [b2]
              rcases get_putT e'.o.dst (v m) (fT E v T0 q m) p with ⟨_, c2⟩ | ⟨c1, _⟩
              · rw [c2]
              · exact absurd a1 c1
          · rw [a2, ih]
            rcases get_putT e.o.dst (v c) (putT e'.o.dst (v m) (fT E v T0 q m)) p with ⟨b1, b2⟩ | ⟨b1, b2⟩
            · rcases get_putT e.o.dst (v c) (fT E v T0 q m) p with ⟨_, c2⟩ | ⟨c1, _⟩
              · rw [b2, c2]
              · exact absurd b1 c1
            · rcases get_putT e.o.dst (v c) (fT E v T0 q m) p with ⟨c1, _⟩ | ⟨_, c2⟩
              · exact absurd c1 b1
              · rw [b2, c2]
                rcases get_putT e'.o.dst (v m) (fT E v T0 q m) p with ⟨d1, _⟩ | ⟨_, d2⟩
                · exact absurd d1 a1
                · rw [d2]

variable {cf : CallR} {yf : YieldR} {t : Nat → PT AV} {h : Nat → AHeap} {x : Nat → Pos} {sn : Nat → List AHeap}

theorem fT_upto (tr : Tr cf yf (E.map fun e => (e.s, e.k, e.o)) t h x v sn) (q : Nat → Bool) : ∀ m, m ≤ E.length → (∀ d, d < m → q d = true) → fT E v (t 0) q m = t m
  | 0, _, _ => rfl
  | m + 1, hm, hq => by
    obtain ⟨e, he⟩ : ∃ e, E[m]? = some e := ⟨E[m], List.getElem?_eq_getElem (by omega)⟩
    have := tr.tmp m e.s e.k e.o (by simp [he])
    simp only [fT, he, hq m (by omega), if_true, fT_upto tr q m (by omega) (fun d hd => hq d (by omega)), this]

theorem fT_stay (q : Nat → Bool) (c : Nat) (hq : ∀ d, c ≤ d → q d = false) : ∀ m, c ≤ m → fT E v T0 q m = fT E v T0 q c
  | 0, hm => by have : c = 0 := by omega
                subst this; rfl
  | m + 1, hm => by
    by_cases hc : c = m + 1
    · subst hc; rfl
    · simp only [fT, hq m (by omega), Bool.false_eq_true, if_false]
      have := fT_stay q c hq m (by omega)
      split <;> exact this
end
end Go.Abs
