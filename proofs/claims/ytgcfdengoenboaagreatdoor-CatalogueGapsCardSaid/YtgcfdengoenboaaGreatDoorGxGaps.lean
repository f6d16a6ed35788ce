/- CatalogueGaps: a call of it hands back true. -/
import Derived.Test.YtgcfdengoenboaaGreatDoorGxRuns
namespace Go.Proofs.TG
open Go Go.Abs Go.Proofs

theorem endK_spec {x : AEx} {T : PT AV} {D : List Pos} {H : AHeap} {nx : Pos} (h : endK x T D H nx = true) : (x = .normal ∨ x = .ret) ∧ ∃ H' nx', endFn c3 ⟨T, D, H, nx⟩ = some (.bool true, H', nx') := by
  have key : optK (endFn c3 ⟨T, D, H, nx⟩) (fun q => isT q.1 q.2.1 q.2.2) = true → ∃ H' nx', endFn c3 ⟨T, D, H, nx⟩ = some (.bool true, H', nx') := by
    intro h
    obtain ⟨⟨v, H', nx'⟩, h1, h2⟩ := optK_some h
    have := isT_spec h2
    simp only at this
    subst this
    exact ⟨H', nx', h1⟩
  cases x with
  | normal => exact ⟨.inl rfl, key h⟩
  | exit i => cases h
  | ret => exact ⟨.inr rfl, key h⟩

theorem keeps_of {ρ : Env} {H : AHeap} {w w' : World} {ρ0 : Env} {a b : Pos} (st : Step ρ0 H0 a w ρ H b w') : Keeps w w' :=
  ⟨fun x hx => st.frame x hx (tables_own tables x), st.size, st.os, st.tape, st.output⟩

theorem ops_lo : ∀ i : Nat, (([0, 1, 2] : List Nat).map fun i => O4[i]?)[i]? = ((O4.toList.take 3).map some)[i]? := by
  intro i
  have h6 := sz4
  match i with
  | 0 => simp [h6]
  | 1 => simp [h6]
  | 2 => simp [h6]
  | i + 3 => simp; omega

theorem ops_hi : ∀ i : Nat, (([4, 5] : List Nat).map fun i => O4[i]?)[i]? = ((O4.toList.drop 4).map some)[i]? := by
  intro i
  have h6 := sz4
  match i with
  | 0 => simp [h6]
  | 1 => simp [h6]
  | i + 2 =>
    have hn : O4[4 + (i + 2)]? = none := Array.getElem?_eq_none (by omega)
    simp [hn]

theorem frame_size (cargs : Array Value) (n : Nat) : n ≤ (cargs ++ Array.replicate (n - cargs.size) undef).size := by simp; omega

theorem T3_16 (k c s : Int) : evT (T3 k c s) (Pos.ofNat 16) = .int .u8 k := rfl
theorem T3_17 (k c s : Int) : evT (T3 k c s) (Pos.ofNat 17) = .int .u8 c := rfl
theorem T3_18 (k c s : Int) : evT (T3 k c s) (Pos.ofNat 18) = .int .u8 s := rfl

theorem calls14_spec {o : Oper} (h : calls14 o = true) : ∃ c, o.op = .call c ∧ c.callee = .value (.func 5) ∧ c.args.toList = [.tmp 16, .tmp 17, .tmp 18] := by
  unfold calls14 at h
  split at h
  · rename_i c hc
    split at h
    · rename_i f a b d h1 h2
      simp only [Bool.and_eq_true] at h
      obtain ⟨⟨⟨q1, q2⟩, q3⟩, q4⟩ := h
      rw [Nat.eq_of_beq_eq_true q1] at h1
      rw [Nat.eq_of_beq_eq_true q2, Nat.eq_of_beq_eq_true q3, Nat.eq_of_beq_eq_true q4] at h2
      exact ⟨c, hc, h1, h2⟩
    · cases h
  · cases h

theorem gaps_calls {k c s : Nat} (hk : k < 256) (hc : c < 256) (hs : s < 256) {w : World} (hl : Laid gs H0 w) :
    Calls Tryz.prog 3 #[.int .u8 k, .int .u8 c, .int .u8 s] w (fun e w' => e = .returned (.bool true) ∧ Keeps w w') := by
  obtain ⟨fn, hfn⟩ : ∃ fn, fn = Tryz.f3 := ⟨_, rfl⟩
  have e4 : Tryz.prog.funcs[3]? = some fn := by rw [hfn]; exact fn4
  have eb : fn.body = some (.seq A4 (.seq B4 (.seq (.region (regId C4) O4 false) R4))) := by rw [hfn]; exact hb4
  have er : fn.results.toList.mapM (cres Tryz.prog) = some c3.res := by rw [hfn]; exact res4
  have hnt : N4 = fn.ntmps := by rw [hfn]; rfl
  have ccA := ccA
  have ccB := ccB
  have ccR := ccR
  have coC1 := coC1
  have coC2 := coC2
  have co3 := co3
  rw [hnt] at ccA ccB ccR coC1 coC2 co3
  have hdr : DrawsOK Tryz.prog gs (mkB Tryz.prog gs w.heap) := draws_ok mixed
  have hsum := sumK_ok w.heap
  have ex := fun m => exec_sound (fns := fns) (sum := sumK) hdr fns_ok hsum (mkB_ok w.heap) m
  have hcf := fun m => call_sound (sum := sumK) (ex m).1 fns_ok hsum
  have hyf := fun m => yield_sound (ex m).1 (exec_mono m) (mkB_ok w.heap)
  have eA := congrFun (congrFun (congrFun runA (k : Int)) (c : Int)) (s : Int)
  have eB := congrFun (congrFun (congrFun runB (k : Int)) (c : Int)) (s : Int)
  have eC := congrFun (congrFun (congrFun runC (k : Int)) (c : Int)) (s : Int)
  have qA := (ex 20).1 _ _ _ _ _ _ _ ccA eA
  have qB := (ex 20).1 _ _ _ _ _ _ _ ccB eB
  have fr : ∀ nx, Fresh (globEnv gs) n0 nx := fun nx => globEnv_fresh names_low
  have hargs : RelL (globEnv gs) [.int .u8 k, .int .u8 c, .int .u8 s] (#[.int .u8 k, .int .u8 c, .int .u8 s] : Array Value).toList := by
    simp [RelL, Rel]
  refine calls_of_Wd (r := none) (n := 0) (callsIn_of_wp_marks (F := Wd none) e4 eb trivial ?_ rfl)
  refine wpIn_seq (qA.spec (globEnv gs) w { tmps := (#[.int .u8 k, .int .u8 c, .int .u8 s] : Array Value) ++ Array.replicate (fn.ntmps - (#[.int .u8 k, .int .u8 c, .int .u8 s] : Array Value).size) undef, defers := [] } (hl.sim tables) (fr _) globEnv_glob (args_rel hargs fn.ntmps) (frame_size _ fn.ntmps) rfl 0 none (.inl ⟨rfl, rfl⟩) _ fun ρ1 a1 w1 S1 st1 t1 z1 d1 => ?_)
  refine wpIn_seq (qB.spec ρ1 w1 a1 S1 ((fr n0).snd st1 (Nat.le_refl _)) (globEnv_glob.mono st1.ext) t1 (by rw [z1]; exact frame_size _ fn.ntmps) d1 0 none (.inl ⟨rfl, rfl⟩) _ fun ρ2 a2 w2 S2 st2 t2 z2 d2 => ?_)
  have hN2 : fn.ntmps ≤ a2.tmps.size := by rw [z2, z1]; exact frame_size _ fn.ntmps
  have hrange : List.range O4.size = [0, 1, 2] ++ (3 :: [4, 5]) := by rw [sz4]; rfl
  refine wpIn_seq (wpIn_region ?_)
  rw [hrange]
  refine (seq_sound_to (hcf 20) (hyf 20) [0, 1, 2] _ _ (3 :: [4, 5]) _ _ _ _ _ _ ops_lo coC1 eC).2 ρ2 w2 a2 S2 ((fr n0).snd (st1.trans st2 (Nat.le_refl _) (Nat.le_refl _)) (Nat.le_refl _)) (globEnv_glob.mono (st1.trans st2 (Nat.le_refl _) (Nat.le_refl _)).ext) t2 hN2 0 none _ fun ρ3 a3 w3 S3 st3 t3 z3 d3 => ?_
  have st13 := (st1.trans st2 (Nat.le_refl _) (Nat.le_refl _)).trans st3 (Nat.le_refl _) (Nat.le_refl _)
  have hN3 : fn.ntmps ≤ a3.tmps.size := by rw [z3]; exact hN2
  obtain ⟨o3, ho3, hco3⟩ := Option.bind_eq_some_iff.1 co3
  have hok := coper_ok hco3
  have hcl : calls14 o3 = true := by have := cl3; rw [ho3] at this; simpa using this
  obtain ⟨cq, hc1, hc2, hc3⟩ := calls14_spec hcl
  rw [wpOpsIn_cons]
  unfold wpOpIn
  rw [ho3]
  simp only
  rw [if_pos (want_ok hok t3 rfl)]
  have hev : cq.args.map a3.eval = #[.int .u8 k, .int .u8 c, .int .u8 s] := by
    apply Array.toList_inj.1
    rw [Array.toList_map, hc3]
    have e16 := t3 16
    have e17 := t3 17
    have e18 := t3 18
    rw [T3_16] at e16
    rw [T3_17] at e17
    rw [T3_18] at e18
    simp only [Rel] at e16 e17 e18
    simp [Act.eval, e16, e17, e18]
  refine op_call hok.op (fun c' h' => by rw [hc1] at h'; cases h'; exact hc2) fn14 (R := fun v w' => Keeps w3 w' ∧ ∃ k' c' s', IsRecipe k' c' s' ∧ v = recipeV k' c' s') (fun c' h' => by
    rw [hc1] at h'; cases h'
    rw [hev]
    exact recipe_calls hk hc hs (hl.keeps (keeps_of st13))) ?_
  rintro v4 w4 ⟨hkp, K, C, S, hrec, rfl⟩
  have S4 := S3.keep hkp.heap hkp.size
  obtain ⟨p1, p2, p3⟩ := put_rel hok t3 (v := recipeA K C S) (cv := recipeV K C S) (ρ := ρ3) (by simp only [recipeA, recipeV, Rel, RelL]; exact ⟨_, rfl, _, _, rfl, rfl, _, _, rfl, rfl, _, _, rfl, rfl, rfl⟩) hN3
  have hrest := congrFun (congrFun (congrFun (rest_ok hrec) (k : Int)) (c : Int)) (s : Int)
  unfold restF at hrest
  have hee := execM_e fns sumK shA_ok 1000000
  obtain ⟨m5, T5, H5, nx5, hs5, hr5⟩ := seqK_e fns sumK (callM_e fns sumK shA_ok hee) (yieldX_e fns sumK hee) hrest
  obtain ⟨m6, x6, s6, hx6, he6⟩ := hee _ _ _ _ _ _ _ hr5
  obtain ⟨hx, H7, nx7, hend⟩ := endK_spec he6
  have q5 := seq_sound_to (hcf m5) (hyf m5) [4, 5] _ _ [] _ _ _ _ _ _ ops_hi coC2 hs5
  have q6 := (ex m6).1 _ _ _ _ _ _ _ ccR hx6
  have stk := hkp.step ρ3 H0 n0
  have st14 := st13.trans stk (Nat.le_refl _) (Nat.le_refl _)
  have g4 := globEnv_glob.mono st14.ext
  refine q5.2 ρ3 w4 _ S4 ((fr nx5).snd st14 (Nat.le_refl _)) g4 p1 (by rw [p2]; exact hN3) 0 none _ fun ρ5 a5 w5 S5 st5 t5 z5 d5 => ?_
  have st15 := st14.trans st5 (Nat.le_refl _) q5.1
  refine q6.spec ρ5 w5 a5 S5 ((fr s6.nx).snd st15 q5.1) (globEnv_glob.mono st15.ext) t5 (by rw [z5, p2]; exact hN3) (by rw [d5, p3, d3]; exact d2.mono (st3.trans (stk.trans st5 (Nat.le_refl _) q5.1) (Nat.le_refl _) q5.1).ext) 0 none (.inl ⟨rfl, rfl⟩) _ fun ρ6 a6 w6 S6 st6 t6 z6 d6 => ?_
  have st16 := st15.trans st6 q5.1 q6.le
  -- the end of the function
  unfold endFn at hend
  split at hend
  · rename_i H8 hum
    split at hend
    · rename_i l hl8
      simp at hend
      obtain ⟨e1, _, _⟩ := hend
      have fin : LeavesInM (Wd none) 0 Tryz.prog fn a6.tmps (fun e w' => e = .returned (.bool true) ∧ Keeps w w') a6.defers .returning w6 := by
        refine unmark_ok s6.nx s6.D s6.H H8 ρ6 w6 a6.defers hum S6 d6 fun w8 S8 st8 => ?_
        obtain ⟨v, r1, r2⟩ := results_ok (P := Tryz.prog) (fn := fn) S8 t6 er hl8
        rw [e1] at r2
        simp only [Rel] at r2
        subst r2
        exact ⟨_, r1, rfl, keeps_of (st16.trans st8 (Nat.le_trans q5.1 q6.le) (Nat.le_refl _))⟩
      rcases hx with rfl | rfl
      · exact fin
      · exact fin
    · cases hend
  · cases hend
end Go.Proofs.TG
