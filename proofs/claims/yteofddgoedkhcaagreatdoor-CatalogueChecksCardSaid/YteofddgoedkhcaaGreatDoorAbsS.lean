/- The abstract interpreter, part S: code. -/
import Derived.Test.YteofddgoedkhcaaGreatDoorAbsR
import Derived.LoopNIn
namespace Go.Abs
section
variable {P : Program} {gs : List Nat} {B : Base} {fns : Nat → Option AFn} {sum : Nat → List AV → AHeap → Option AV}

theorem codeSpec_zero (fns : Nat → Option AFn) (sum : Nat → List AV → AHeap → Option AV) : ExecSpec P gs B (exec fns sum 0) := fun _ _ _ _ _ _ _ _ h => by cases h

theorem cond_eval {ρ : Env} {T : PT AV} {a : Act} {c : Operand} {t : AX} {b : Bool} (hT : RelA ρ T a.tmps) (hG : Glob gs ρ) (hc : cox gs c = some t) (h : ev T t = .bool b) : a.eval c = .bool b := by
  have := evs_of hT hG c t hc
  rw [h] at this
  simpa [Rel] using this

theorem range_sound {ex : ExecR} (hcf : CallsOK P gs B (callA fns sum ex)) (hB : CrOK P gs B) {N : Nat} {f : Operand} {ps : Array Tmp} {assign body : Code} {t : AX} {x y : AC} {s : St} {xx : AEx} {s' : St} {rd : Option Pos}
    (hf : cox gs f = some t) (hx : cc P gs N assign = some x) (hy : cc P gs N body = some y) (hp : ps.all (fun p => decide (p < N)) = true)
    (h : execF fns sum ex (.rng t (ps.toList.map Pos.ofNat) x y) rd s = some (xx, s')) : CodeSpec P gs B N (.rangeFunc f ps assign body) rd s xx s' := by
  simp only [execF] at h
  cases rd with
  | some _ => cases h
  | none =>
  simp only at h
  split at h
  · rename_i g fs cs hg
    split at h
    · rename_i v H nx hcall
      have hs := hcf _ _ _ _ _ _ _ hcall
      have key : ∀ (rdy : Bool) (pend : Option (Option Nat)) (T0 : PT AV) (ps0 : List Pos) (a0 b0 : AC), PT.get s.nx.succ H = some (.loop rdy pend T0 ps0 a0 b0) → stOf rdy pend ≠ .busy →
          s' = ⟨s.T, s.nx :: s.D, PT.put s.nx.succ none H, nx⟩ → xx.toExit = (match pend with | none => Exit.normal | some none => .ret | some (some i) => .exit i) → CodeSpec P gs B N (.rangeFunc f ps assign body) none s xx s' := by
        intro rdy pend T0 ps0 a0 b0 hget hbusy hs' hxx
        subst hs'
        have le := hs.le
        rw [Pos.toNat_succ, Pos.toNat_succ] at le
        refine ⟨by show s.nx.toNat ≤ nx.toNat; omega, fun ρ w a hS hF hG hT hN hD n r hR Q hQ => ?_⟩
        have hr : r = none := by rcases hR with ⟨_, h⟩ | ⟨_, _, _, h, _⟩; exact h; cases h
        subst hr
        have hn0 : ρ s.nx = none := hF s.nx (Nat.le_refl _) (by show s.nx.toNat < nx.toNat; omega)
        have hn1 : ρ s.nx.succ = none := hF s.nx.succ (by rw [Pos.toNat_succ]; omega) (by rw [Pos.toNat_succ]; show _ < nx.toNat; omega)
        obtain ⟨S1, st1⟩ := hS.allocObj hn0 .dfr (.deferred (some [])) rfl rfl
        have hne : s.nx.succ ≠ s.nx := fun q => by have := congrArg Pos.toNat q; rw [Pos.toNat_succ] at this; omega
        have hn1' : (ρ.set s.nx (w.heap.size, 0, 0)) s.nx.succ = none := by rw [Env.set_other _ _ hne]; exact hn1
        refine wpIn_rangeFunc fun fn _ => ?_
        have hle2 := Env.le_trans st1.ext (Env.set_le (x := ((w.alloc (.deferred (some []))).heap.size, 0, 0)) hn1')
        obtain ⟨S2, st2⟩ := S1.allocObj hn1' (.loop true none s.T (ps.toList.map Pos.ofNat) x y) (.loop { state := .ready, pending := none, fn, tmps := a.tmps, params := ps, assign, body, defers := w.heap.size }) rfl
          ⟨_, rfl, rfl, rfl, hT.mono hle2, rfl, fun p hp' => Nat.lt_of_lt_of_le (by have := Array.all_eq_true.1 hp; simp at this; obtain ⟨i, hi, rfl⟩ := List.getElem_of_mem hp'; exact this i (by simpa using hi)) hN, (hB _ _ _).2 ⟨N, hN, hx⟩, (hB _ _ _).2 ⟨N, hN, hy⟩⟩
        have hsz : (w.alloc (.deferred (some []))).heap.size = w.heap.size + 1 := World.size_alloc _ _
        have st12 := st1.trans st2 (by simp only [Pos.toNat_succ]; omega) (by simp only [Pos.toNat_succ]; omega)
        have hrun := run_enterLoop_outer (P := P) (w := w) fn a.tmps ps assign body
        generalize hW : (w.alloc (.deferred (some []))).alloc (.loop { state := .ready, pending := none, fn, tmps := a.tmps, params := ps, assign, body, defers := w.heap.size }) = W2 at S2 st2 st12 hrun
        have hev := evs_of hT hG f t hf
        rw [hg] at hev
        simp only [Rel] at hev
        obtain ⟨fs', cs', rv, r1, r2⟩ := hev
        obtain ⟨fnn, e1, e2, e3⟩ := hs.fn
        have hF2 : Fresh _ s.nx nx := hF
        refine ⟨_, _, W2, { target := .fn (.func g) cs', args := fs' ++ #[.func (.yield (w.heap.size + 1)) #[] #[]] }, W2, g, (fs' ++ #[.func (.yield (w.heap.size + 1)) #[] #[]]) ++ cs', W2, hrun, ?_, fun _ _ => trivial, ?_, (fun h => by cases h), ?_⟩
        · simp only [resolve, rv]
          simp [go_sem, Deferred.ofValue, Act.eval]
        · have : ∀ (args : Array Value) (W : World), (callFunc g args).run P W = .ok (.enter g args) W := by
            intro args W
            simp only [callFunc, Sem.run_bind, run_program, Result.andThen_ok, e1]
            simp only [e2, e3, Bool.false_eq_true, if_false]
            rfl
          simp only [invoke]
          exact this _ _
        · refine callsIn_Wd (Calls.mono (hs.spec _ _ _ S2 (hF2.snd st12 (by simp only [Pos.toNat_succ]; omega)) (hG.mono hle2) ?_) ?_)
          · have ry : Rel ((ρ.set s.nx (w.heap.size, 0, 0)).set s.nx.succ ((w.alloc (.deferred (some []))).heap.size, 0, 0)) (.yld s.nx.succ) (.func (.yield (w.heap.size + 1)) #[] #[]) := by
              simp only [Rel]
              exact ⟨_, _, _, Env.set_same _ _ _, by rw [hsz]⟩
            have r1' := r1.mono hle2
            have r2' := r2.mono hle2
            simp only [Array.toList_append]
            rw [List.append_assoc]
            exact r1'.append (RelL.cons ry r2')
          · rintro e w3 ⟨v', ρ3, rfl, S3, st3, _⟩
            have hyl : ρ3 s.nx.succ = some (w.heap.size + 1, 0, 0) := by
              have := st3.ext _ _ (Env.set_same (ρ.set s.nx (w.heap.size, 0, 0)) s.nx.succ ((w.alloc (.deferred (some []))).heap.size, 0, 0))
              rw [this, hsz]
            have hdf : ρ3 s.nx = some (w.heap.size, 0, 0) := st3.ext _ _ (by rw [Env.set_other _ _ (Ne.symm hne)]; exact Env.set_same _ _ _)
            obtain ⟨m3, l3, q1, q2, q3⟩ := loop_obj S3 hget hyl
            have hst : l3.state ≠ .busy := by rw [q3.state]; exact hbusy
            obtain ⟨S4, st4⟩ := S3.putObj (k := none) (o := .loop { l3 with state := .exhausted }) hget rfl hyl (fun _ h => by cases h) nx
            have stT := (st12.trans st3 (by simp only [Pos.toNat_succ]; omega) hs.le).trans st4 (by omega) (Nat.le_refl _)
            have hQ' := hQ ρ3 { a with defers := [{ target := .collected w.heap.size, args := #[] }] ++ a.defers } _ S4 stT (hT.mono stT.ext) rfl ⟨w.heap.size, 0, a.defers, rfl, hdf, hD.mono stT.ext⟩
            refine ⟨_, _, run_endLoop q2 hst, ?_⟩
            rw [q3.pending] at hQ' ⊢
            rw [hxx] at hQ'
            cases pend with
            | none => exact hQ'
            | some j => cases j with
              | none => exact wpIn_ret hQ'
              | some i => exact wpIn_exit hQ'
      split at h
      · rename_i T0 ps0 a0 b0 hget
        simp at h; obtain ⟨rfl, rfl⟩ := h
        exact key true none T0 ps0 a0 b0 hget (by simp [stOf]) rfl rfl
      · rename_i T0 ps0 a0 b0 hget
        simp at h; obtain ⟨rfl, rfl⟩ := h
        exact key false (some none) T0 ps0 a0 b0 hget (by simp [stOf]) rfl rfl
      · rename_i i T0 ps0 a0 b0 hget
        simp at h; obtain ⟨rfl, rfl⟩ := h
        exact key false (some (some i)) T0 ps0 a0 b0 hget (by simp [stOf]) rfl rfl
      · cases h
    · cases h
  · cases h

/-- What is asked of drawn regions, when calls and yields are sound. -/
def DrawsOK (P : Program) (gs : List Nat) (B : Base) : Prop := ∀ cf yf, CallsOK P gs B cf → YieldsOK P gs B yf → DrawOK P gs B cf yf

/-- Loops: so many rounds. -/
structure LoopSpec (P : Program) (gs : List Nat) (B : Base) (m : Nat) (N : Nat) (c : Code) (rd : Option Pos) (s : St) (x : AEx) (s' : St) : Prop where
  le : s.nx.toNat ≤ s'.nx.toNat
  spec : ∀ (ρ : Env) (w : World) (a : Act), Sim B ρ s.H w → Fresh ρ s.nx s'.nx → Glob gs ρ → RelA ρ s.T a.tmps → N ≤ a.tmps.size → RelD ρ s.D a.defers → ∀ (n : Nat) (r : Option Nat), Rnd ρ rd r → ∀ (Q : Exit → Act → World → Prop),
    (∀ ρ' a' w', Sim B ρ' s'.H w' → Step ρ s.H s.nx w ρ' s'.H s'.nx w' → RelA ρ' s'.T a'.tmps → a'.tmps.size = a.tmps.size → RelD ρ' s'.D a'.defers → Q x.toExit a' w') → Code.roundsIn (Wd r) n P c Q m a w

theorem exec_sound (hdraw : DrawsOK P gs B) (hfns : FnsOK P gs fns) (hsum : SumOK P gs B sum) (hB : CrOK P gs B) : ∀ m, ExecSpec P gs B (exec fns sum m) ∧
    ∀ (N : Nat) (c : Code) (ac : AC) (rd : Option Pos) (s : St) (x : AEx) (s' : St), cc P gs N c = some ac → exec fns sum m (.loop ac) rd s = some (x, s') → LoopSpec P gs B m N c rd s x s' := by
  intro m
  induction m with
  | zero => exact ⟨(fun _ _ _ _ _ _ _ _ h => by cases h), (fun _ _ _ _ _ _ _ _ h => by cases h)⟩
  | succ m ih =>
    obtain ⟨hex, hloop⟩ := ih
    have hcf : CallsOK P gs B (callA fns sum (exec fns sum m)) := call_sound hex hfns hsum
    have hyf : YieldsOK P gs B (yieldA (exec fns sum m)) := yield_sound hex (exec_mono m) hB
    have hL : ∀ (N : Nat) (c : Code) (ac : AC) (rd : Option Pos) (s : St) (x : AEx) (s' : St), cc P gs N c = some ac → exec fns sum (m + 1) (.loop ac) rd s = some (x, s') → LoopSpec P gs B (m + 1) N c rd s x s' := by
      intro N c ac rd s x s' hc h
      rw [exec_succ] at h
      simp only [execF] at h
      split at h
      · rename_i s1 h1
        have q1 := hex _ _ _ _ _ _ _ hc h1
        have q2 := hloop _ _ _ _ _ _ _ hc h
        refine ⟨Nat.le_trans q1.le q2.le, fun ρ w a hS hF hG hT hN hD n r hR Q hQ => ?_⟩
        rw [roundsIn_succ]
        refine q1.spec ρ w a hS (hF.fst q2.le) hG hT hN hD n r hR _ fun ρ1 a1 w1 S1 st1 T1 n1 D1 => ?_
        exact q2.spec ρ1 w1 a1 S1 (hF.snd st1 q1.le) (hG.mono st1.ext) T1 (by rw [n1]; exact hN) D1 n r (hR.mono st1.ext) Q fun ρ2 a2 w2 S2 st2 T2 n2 D2 =>
          hQ ρ2 a2 w2 S2 (st1.trans st2 q1.le q2.le) T2 (n2.trans n1) D2
      · rename_i hno
        have q1 := hex _ _ _ _ _ _ _ hc h
        refine ⟨q1.le, fun ρ w a hS hF hG hT hN hD n r hR Q hQ => ?_⟩
        rw [roundsIn_succ]
        refine q1.spec ρ w a hS hF hG hT hN hD n r hR _ fun ρ1 a1 w1 S1 st1 T1 n1 D1 => ?_
        have := hQ ρ1 a1 w1 S1 st1 T1 n1 D1
        cases x with
        | normal => exact absurd h (hno s')
        | exit i => exact this
        | ret => exact this
    refine ⟨?_, hL⟩
    intro N c ac rd s x s' hc h
    have h0 := h
    rw [exec_succ] at h
    cases c with
    | skip =>
      simp only [cc, Option.some.injEq] at hc; subst hc
      simp [execF] at h; obtain ⟨rfl, rfl⟩ := h
      exact ⟨Nat.le_refl _, fun ρ w a hS hF hG hT hN hD n r hR Q hQ => wpIn_skip (hQ ρ a w hS (Step.refl _ _ _ _) hT rfl hD)⟩
    | region rid ops draw =>
      simp only [cc] at hc
      split at hc
      · rename_i hd
        subst hd
        have hdl : ∃ dl, ac = .drw dl := by
          unfold cdrw at hc
          repeat' split at hc
          all_goals first
            | (cases hc; done)
            | (simp at hc; subst hc; exact ⟨_, rfl⟩)
            | (simp only at hc; repeat' split at hc) <;> first | (cases hc; done) | (simp at hc; subst hc; exact ⟨_, rfl⟩)
        obtain ⟨dl, rfl⟩ := hdl
        simp only [execF] at h
        split at h
        · rename_i T H nx hd
          simp at h; obtain ⟨rfl, rfl⟩ := h
          have q := hdraw _ _ hcf hyf N rid ops dl _ _ _ _ _ _ hc hd
          exact ⟨q.1, fun ρ w a hS hF hG hT hN hD n r hR Q hQ => q.2 ρ w a hS hF hG hT hN n r Q fun ρ1 a1 w1 S1 st1 T1 n1 D1 => hQ ρ1 a1 w1 S1 st1 T1 n1 (by rw [D1]; exact hD.mono st1.ext)⟩
        · cases h
      · rename_i hd
        simp at hd; subst hd
        simp only [Option.map_eq_some_iff] at hc
        obtain ⟨aos, hc, rfl⟩ := hc
        simp only [execF] at h
        split at h
        · rename_i T H nx hd
          simp at h; obtain ⟨rfl, rfl⟩ := h
          have q := region_sound hcf hyf rid hc hd
          exact ⟨q.1, fun ρ w a hS hF hG hT hN hD n r hR Q hQ => q.2 ρ w a hS hF hG hT hN n r Q fun ρ1 a1 w1 S1 st1 T1 n1 D1 => hQ ρ1 a1 w1 S1 st1 T1 n1 (by rw [D1]; exact hD.mono st1.ext)⟩
        · cases h
    | seq p q =>
      simp only [cc] at hc
      split at hc
      · rename_i x1 y1 hc1 hc2
        simp at hc; subst hc
        simp only [execF] at h
        split at h
        · rename_i s1 h1
          have q1 := hex _ _ _ _ _ _ _ hc1 h1
          have q2 := hex _ _ _ _ _ _ _ hc2 h
          refine ⟨Nat.le_trans q1.le q2.le, fun ρ w a hS hF hG hT hN hD n r hR Q hQ => wpIn_seq ?_⟩
          refine q1.spec ρ w a hS (hF.fst q2.le) hG hT hN hD n r hR _ fun ρ1 a1 w1 S1 st1 T1 n1 D1 => ?_
          exact q2.spec ρ1 w1 a1 S1 (hF.snd st1 q1.le) (hG.mono st1.ext) T1 (by rw [n1]; exact hN) D1 n r (hR.mono st1.ext) Q fun ρ2 a2 w2 S2 st2 T2 n2 D2 =>
            hQ ρ2 a2 w2 S2 (st1.trans st2 q1.le q2.le) T2 (n2.trans n1) D2
        · rename_i hno
          have q1 := hex _ _ _ _ _ _ _ hc1 h
          refine ⟨q1.le, fun ρ w a hS hF hG hT hN hD n r hR Q hQ => wpIn_seq ?_⟩
          refine q1.spec ρ w a hS hF hG hT hN hD n r hR _ fun ρ1 a1 w1 S1 st1 T1 n1 D1 => ?_
          have := hQ ρ1 a1 w1 S1 st1 T1 n1 D1
          cases x with
          | normal => exact absurd h (hno s')
          | exit i => exact this
          | ret => exact this
      · cases hc
    | cond t p q =>
      simp only [cc] at hc
      split at hc
      · rename_i t1 x1 y1 ht hc1 hc2
        simp at hc; subst hc
        simp only [execF] at h
        split at h
        · rename_i hv
          have q1 := hex _ _ _ _ _ _ _ hc1 h
          exact ⟨q1.le, fun ρ w a hS hF hG hT hN hD n r hR Q hQ => wpIn_cond_true (cond_eval hT hG ht hv) (q1.spec ρ w a hS hF hG hT hN hD n r hR Q hQ)⟩
        · rename_i hv
          have q1 := hex _ _ _ _ _ _ _ hc2 h
          exact ⟨q1.le, fun ρ w a hS hF hG hT hN hD n r hR Q hQ => wpIn_cond_false (cond_eval hT hG ht hv) (q1.spec ρ w a hS hF hG hT hN hD n r hR Q hQ)⟩
        · cases h
      · cases hc
    | block id p =>
      simp only [cc, Option.map_eq_some_iff] at hc
      obtain ⟨x1, hc1, rfl⟩ := hc
      simp only [execF] at h
      split at h
      · rename_i i s1 h1
        have q1 := hex _ _ _ _ _ _ _ hc1 h1
        split at h
        · rename_i hi
          simp at h; obtain ⟨rfl, rfl⟩ := h
          refine ⟨q1.le, fun ρ w a hS hF hG hT hN hD n r hR Q hQ => wpIn_block ?_⟩
          refine q1.spec ρ w a hS hF hG hT hN hD n r hR _ fun ρ1 a1 w1 S1 st1 T1 n1 D1 => ?_
          have hi' : i = id := Nat.eq_of_beq_eq_true hi
          simp only [AEx.toExit, Exit.inBlock, hi', if_true]
          exact hQ ρ1 a1 w1 S1 st1 T1 n1 D1
        · rename_i hi
          simp at h; obtain ⟨rfl, rfl⟩ := h
          refine ⟨q1.le, fun ρ w a hS hF hG hT hN hD n r hR Q hQ => wpIn_block ?_⟩
          refine q1.spec ρ w a hS hF hG hT hN hD n r hR _ fun ρ1 a1 w1 S1 st1 T1 n1 D1 => ?_
          have hi' : i ≠ id := fun e => hi (by rw [e]; exact Nat.beq_refl id)
          simp only [AEx.toExit, Exit.inBlock, hi', if_false]
          exact hQ ρ1 a1 w1 S1 st1 T1 n1 D1
      · rename_i hno
        have q1 := hex _ _ _ _ _ _ _ hc1 h
        refine ⟨q1.le, fun ρ w a hS hF hG hT hN hD n r hR Q hQ => wpIn_block ?_⟩
        refine q1.spec ρ w a hS hF hG hT hN hD n r hR _ fun ρ1 a1 w1 S1 st1 T1 n1 D1 => ?_
        have := hQ ρ1 a1 w1 S1 st1 T1 n1 D1
        cases x with
        | normal => exact this
        | exit i => exact absurd h (hno i s')
        | ret => exact this
    | loop p =>
      simp only [cc, Option.map_eq_some_iff] at hc
      obtain ⟨x1, hc1, rfl⟩ := hc
      have q1 := hL _ _ _ _ _ _ _ hc1 h0
      exact ⟨q1.le, fun ρ w a hS hF hG hT hN hD n r hR Q hQ => wpIn_loop_rounds (m + 1) (q1.spec ρ w a hS hF hG hT hN hD n r hR Q hQ)⟩
    | rangeFunc f ps asg body =>
      simp only [cc] at hc
      split at hc
      · rename_i t x1 y1 hf hc1 hc2
        split at hc
        · rename_i hp
          simp at hc; subst hc
          exact range_sound hcf hB hf hc1 hc2 hp h
        · cases hc
      · cases hc
    | exit id =>
      simp only [cc, Option.some.injEq] at hc; subst hc
      simp [execF] at h; obtain ⟨rfl, rfl⟩ := h
      exact ⟨Nat.le_refl _, fun ρ w a hS hF hG hT hN hD n r hR Q hQ => wpIn_exit (hQ ρ a w hS (Step.refl _ _ _ _) hT rfl hD)⟩
    | ret =>
      simp only [cc, Option.some.injEq] at hc; subst hc
      simp [execF] at h; obtain ⟨rfl, rfl⟩ := h
      exact ⟨Nat.le_refl _, fun ρ w a hS hF hG hT hN hD n r hR Q hQ => wpIn_ret (hQ ρ a w hS (Step.refl _ _ _ _) hT rfl hD)⟩
    | refuse _ =>
      simp only [cc, Option.some.injEq] at hc; subst hc
      cases h
    | _ => cases hc

/-- A call of a function of the program's. -/
theorem top_sound (hdraw : DrawsOK P gs B) (hfns : FnsOK P gs fns) (hsum : SumOK P gs B sum) (hB : CrOK P gs B) {m f : Nat} {args : List AV} {H : AHeap} {nx : Pos} {v : AV} {H' : AHeap} {nx' : Pos}
    (h : top fns sum m f args H nx = some (v, H', nx')) : CallSpec P gs B f args H nx v H' nx' :=
  call_sound (exec_sound hdraw hfns hsum hB m).1 hfns hsum _ _ _ _ _ _ _ h
end
end Go.Abs
