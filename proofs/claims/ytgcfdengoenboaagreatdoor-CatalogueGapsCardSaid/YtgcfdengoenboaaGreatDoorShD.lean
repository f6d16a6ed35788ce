/- Annotated code: operations, one after another. -/
import Derived.Test.YtgcfdengoenboaaGreatDoorShA
namespace Go.Abs

theorem allE_some {E : PT AV} {x : Bool} : ∀ {ps : List Pos}, allE E ps x = true → (∀ p ∈ ps, ∃ v, PT.get p E = some v) ∧ x = true
  | [], h => ⟨(fun _ hp => absurd hp List.not_mem_nil), h⟩
  | p :: ps, h => by
    have h : @Option.rec AV (fun _ => Bool) false (fun _ => allE E ps x) (getR p E) = true := h
    rw [getR_eq] at h
    cases e : PT.get p E with
    | none => rw [e] at h; cases h
    | some v =>
      rw [e] at h
      obtain ⟨h1, h2⟩ := allE_some (ps := ps) h
      refine ⟨fun q hq => ?_, h2⟩
      rcases List.mem_cons.1 hq with rfl | hq
      · exact ⟨v, e⟩
      · exact h1 q hq

/-- Operands as they are. -/
theorem cl_ev {E T : PT AV} (hA : Ag E T) {x : AX} (h : ∀ p ∈ x.tm, ∃ v, PT.get p E = some v) : ev .lf (x.cl E) = ev T x := by
  cases x with
  | t p =>
    obtain ⟨v, hv⟩ := h p (by simp [AX.tm])
    simp only [AX.cl, ev, hv, hA _ _ hv]
  | c v => rfl
theorem cl_evs {E T : PT AV} (hA : Ag E T) : ∀ {xs : List AX}, (∀ p ∈ xs.flatMap AX.tm, ∃ v, PT.get p E = some v) → (xs.map (·.cl E)).map (ev .lf) = xs.map (ev T)
  | [], _ => rfl
  | x :: xs, h => by
    simp only [List.map_cons]
    rw [cl_ev hA (fun p hp => h p (by simp only [List.flatMap_cons, List.mem_append]; exact .inl hp))]
    congr 1
    simpa using cl_evs hA (xs := xs) (fun p hp => h p (by simp only [List.flatMap_cons, List.mem_append]; exact .inr hp))
theorem cl_evo {E T : PT AV} (hA : Ag E T) {x : Option AX} (h : ∀ p ∈ otm x, ∃ v, PT.get p E = some v) : (x.map (·.cl E)).map (ev .lf) = x.map (ev T) := by
  cases x with
  | none => rfl
  | some x => simp only [Option.map_some]; rw [cl_ev hA h]

def AOp.isGen : AOp → Bool
  | .un _ _ => true
  | .fld _ _ _ _ => true
  | .cvs _ => true
  | .s2b _ => true
  | .b2s _ => true
  | .slA _ _ _ _ _ => true
  | .ixv _ _ _ _ _ => true
  | .cap _ => true
  | .ext _ _ => true
  | _ => false

/-- What stands for the others. -/
theorem gen_cl {cf : CallR} {yf : YieldR} {cf' : CallR} {yf' : YieldR} {E T : PT AV} (hA : Ag E T) {op : AOp} (h : ∀ p ∈ op.tms, ∃ v, PT.get p E = some v) {H : AHeap} {nx : Pos} {r : AV × AHeap × Pos}
    (hg : op.isGen = true) (hr : opA cf' yf' (ev .lf) H nx (op.cl E) = some r) : opA cf yf (ev T) H nx op = some r := by
  cases op <;> simp only [AOp.isGen, Bool.false_eq_true] at hg
  case un op x =>
    have := cl_ev hA (x := x) h
    simpa only [AOp.cl, opA, puA, this] using hr
  case fld ag off n x =>
    have := cl_ev hA (x := x) h
    simpa only [AOp.cl, opA, puA, this] using hr
  case cvs x =>
    have := cl_ev hA (x := x) h
    simpa only [AOp.cl, opA, puA, this] using hr
  case s2b x =>
    have := cl_ev hA (x := x) h
    simpa only [AOp.cl, opA, alA, this] using hr
  case b2s x =>
    have := cl_ev hA (x := x) h
    simpa only [AOp.cl, opA, ldA, this] using hr
  case slA n s x lo hi =>
    have q1 := cl_ev hA (x := x) (fun p hp => h p (by simp only [AOp.tms, List.mem_append]; exact .inl (.inl hp)))
    have q2 := cl_evo hA (x := lo) (fun p hp => h p (by simp only [AOp.tms, List.mem_append]; exact .inl (.inr hp)))
    have q3 := cl_evo hA (x := hi) (fun p hp => h p (by simp only [AOp.tms, List.mem_append]; exact .inr hp))
    simpa only [AOp.cl, opA, ldA, q1, q2, q3] using hr
  case ixv ag n s x i =>
    have q1 := cl_ev hA (x := x) (fun p hp => h p (by simp only [AOp.tms, List.mem_append]; exact .inl hp))
    have q2 := cl_ev hA (x := i) (fun p hp => h p (by simp only [AOp.tms, List.mem_append]; exact .inr hp))
    simpa only [AOp.cl, opA, puA, q1, q2] using hr
  case cap x =>
    have := cl_ev hA (x := x) h
    simpa only [AOp.cl, opA, puA, this] using hr
  case ext q xs =>
    have := cl_evs hA (xs := xs) h
    simpa only [AOp.cl, opA, this] using hr

section
variable (fns : Nat → Option AFn) (sum : Nat → List AV → AHeap → Option AV)

/-- An operation that has been run. -/
def OpW (T : PT AV) (H : AHeap) (nx : Pos) (op : AOp) (K : KOE) : Prop :=
  ∃ n v H' nx' E', opA (callA fns sum (exec fns sum n)) (yieldA (exec fns sum n)) (ev T) H nx op = some (v, H', nx') ∧ Ag E' T ∧ K E' v H' nx' = true

theorem genE_some {E T : PT AV} (hA : Ag E T) {op : AOp} {H : AHeap} {nx : Pos} {K : KOE} (h : genE op E H nx K = true) (hg : op.isGen = true) : OpW fns sum T H nx op K := by
  obtain ⟨h1, h⟩ := allE_some h
  obtain ⟨v, H', nx', e, h⟩ := opK_some (noC_ok (callA fns sum (exec fns sum 0))) (noY_ok (yieldA (exec fns sum 0))) h
  exact ⟨0, v, H', nx', E, gen_cl hA h1 hg e, hA, h⟩

theorem opE_some {ck dyn : CallK} (hc : CallE fns sum ck) (hd : CallE fns sum dyn) {m : Nat} {op : AOp} {E T : PT AV} (hA : Ag E T) {H : AHeap} {nx : Pos} {K : KOE} (h : opE ck dyn m op E H nx K = true) : OpW fns sum T H nx op K := by
  cases op
  case mov x => exact ⟨0, _, _, _, E, rfl, hA, (evE_some h hA).1⟩
  case pick c a b =>
    have h := (evE_some h hA).1
    obtain ⟨q, e1, h⟩ := boolV_some h
    have h := (evE_some h hA).1
    have h := (evE_some h hA).1
    have fin : ∀ {v : AV}, v = (bif q then ev T a else ev T b) → K E v H nx = true → OpW fns sum T H nx (.pick c a b) K := by
      intro v hv hk
      refine ⟨0, v, H, nx, E, ?_, hA, hk⟩
      simp only [opA, puA, e1]
      cases q <;> (rw [hv]; rfl)
    split at h
    · exact fin (cndV_eq _ _ _) h
    · obtain ⟨x, ex, h⟩ := boolV_some h
      obtain ⟨y, ey, h⟩ := boolV_some h
      exact fin (by rw [ex, ey, cndB_eq]; cases q <;> rfl) h
    · obtain ⟨x, ex, h⟩ := inV_some h
      obtain ⟨y, ey, h⟩ := inV_some h
      exact fin (by rw [ex, ey, cndZ_eq]; cases q <;> rfl) h
  case bin op ek ks x y =>
    have fin : ∀ {E' : PT AV} {v : AV}, Ag E' T → binA op ek ks (ev T x) (ev T y) = some v → K E' v H nx = true → OpW fns sum T H nx (.bin op ek ks x y) K := by
      intro E' v hA' e hk
      exact ⟨0, v, H, nx, E', by simp only [opA, puA, e], hA', hk⟩
    simp only [opE] at h
    split at h
    · have h := (evE_some h hA).1
      have h := (evE_some h hA).1
      obtain ⟨v, e, h⟩ := binK_some h
      exact fin hA e h
    · have h := (evE_some h hA).1
      have h := (evE_some h hA).1
      obtain ⟨r, e, h⟩ := binB_some h
      exact fin hA e h
    · obtain ⟨h, hx⟩ := evE_some h hA
      obtain ⟨z, ex, h⟩ := inV_some h
      rw [ex] at hx
      obtain ⟨h, hy⟩ := evE_some h hA
      split at h
      · obtain ⟨q, w, ey, h⟩ := intV_some h
        rw [ey] at hy
        obtain ⟨v, e, h⟩ := intsE_some (ek := ek) (ks := ks) (q' := q) h (.inl rfl)
        exact fin ((hA.rf hx).rf hy) (by rw [ex, ey]; exact e) h
      · obtain ⟨q, w, ey, h⟩ := intV_some h
        rw [ey] at hy
        obtain ⟨v, e, h⟩ := intsE_some (ek := ek) (ks := ks) (q' := q) h (.inr (.inl rfl))
        exact fin ((hA.rf hx).rf hy) (by rw [ex, ey]; exact e) h
      · obtain ⟨w, ey, h⟩ := inV_some h
        rw [ey] at hy
        obtain ⟨v, e, h⟩ := intsE_some (ek := ek) (ks := ks) (q' := kdN m) h (.inr (.inr rfl))
        exact fin ((hA.rf hx).rf hy) (by rw [ex, ey]; exact e) h
  case un op x =>
    simp only [opE] at h
    split at h
    · split at h
      · obtain ⟨h, hx⟩ := evE_some h hA
        obtain ⟨b, ex, h⟩ := boolV_some h
        rw [ex] at hx
        rw [notB_eq] at h
        exact ⟨0, _, H, nx, _, by simp only [opA, puA, unA, ex, mkBool_eq], hA.rf hx, h⟩
      · cases h
    · exact genE_some fns sum hA h rfl
    · split at h
      · obtain ⟨h, hx⟩ := evE_some h hA
        obtain ⟨z, ex, h⟩ := inV_some h
        rw [ex] at hx
        rw [subZ_eq] at h
        exact ⟨0, _, H, nx, _, by simp only [opA, puA, unA, ex, mkInt_eq], hA.rf hx, h⟩
      · cases h
  case cvi q x =>
    obtain ⟨h, hx⟩ := evE_some h hA
    obtain ⟨q', z, ex, h⟩ := intV_some h
    rw [ex] at hx
    rw [cvZ_eq] at h
    exact ⟨0, _, H, nx, _, by simp only [opA, puA, cvI, ex, mkInt_eq], hA.rf hx, h⟩
  case load ag n x =>
    simp only [opE] at h
    obtain ⟨h, hx⟩ := evE_some h hA
    obtain ⟨id, off, ex, h⟩ := ptrV_some h
    rw [ex] at hx
    split at h
    · obtain ⟨v, e, h⟩ := ld1_some (n := n) h ex
      exact ⟨0, v, H, nx, _, by simp only [opA, e], hA.rf hx, h⟩
    · split at h
      · obtain ⟨l, e, h⟩ := ldL_some h ex
        exact ⟨0, _, H, nx, _, by simp only [opA, e], hA.rf hx, h⟩
      · obtain ⟨l, e, h⟩ := ldC_some h ex
        exact ⟨0, _, H, nx, _, by simp only [opA, e], hA.rf hx, h⟩
  case store n a x =>
    obtain ⟨h, hx⟩ := evE_some h hA
    have h := (evE_some h hA).1
    obtain ⟨id, off, ex, h⟩ := ptrV_some h
    rw [ex] at hx
    obtain ⟨H', e, h⟩ := stV_some h ex rfl
    exact ⟨0, undefA, H', nx, _, by simp only [opA, e], hA.rf hx, h⟩
  case new z =>
    have h : nwL z H nx (fun H' nx' => K E (.ptr nx 0) H' nx') = true := h
    rw [nwL_eq] at h
    exact ⟨0, _, _, _, E, rfl, hA, h⟩
  case box x =>
    have h := (evE_some h hA).1
    obtain ⟨e1, h⟩ := nwV_some h
    exact ⟨0, _, _, _, E, by simp only [opA, alA, e1]; rfl, hA, h⟩
  case build z ps =>
    have h := evpE_some hA h
    obtain ⟨r, e, h⟩ := fillV_some h
    exact ⟨0, _, _, _, E, by simp only [opA, puA, e], hA, h⟩
  case mksl z len es ps =>
    have h := evpE_some hA h
    obtain ⟨r, e, h⟩ := fillV_some h
    rw [nwL_eq] at h
    exact ⟨0, _, _, _, E, by simp only [opA, alA, e]; rfl, hA, h⟩
  case nilchk x =>
    simp only [opE] at h
    split at h
    · have h := (evE_some h hA).1
      obtain ⟨v, e, h⟩ := optK_some h
      exact ⟨0, v, H, nx, E, by simp only [opA, puA, e], hA, h⟩
    · obtain ⟨h, hx⟩ := evE_some h hA
      obtain ⟨id, off, ex, h⟩ := ptrV_some h
      rw [ex] at hx
      exact ⟨0, _, H, nx, _, by simp only [opA, puA, ex, nilchkA], hA.rf hx, h⟩
  case mkif t x => exact ⟨0, _, _, _, E, rfl, hA, (evE_some h hA).1⟩
  case mkfn f fs cs => exact ⟨0, _, _, _, E, rfl, hA, evsE_some hA (evsE_some hA h)⟩
  case slS s x lo hi =>
    have h := (evE_some h hA).1
    have h := evO_some h hA
    have h := evO_some h hA
    obtain ⟨v, e, h⟩ := optK_some h
    exact ⟨0, v, H, nx, E, by simp only [opA, puA, e], hA, h⟩
  case slStr x lo hi =>
    have h := (evE_some h hA).1
    have h := evO_some h hA
    have h := evO_some h hA
    obtain ⟨v, e, h⟩ := optK_some h
    exact ⟨0, v, H, nx, E, by simp only [opA, puA, e], hA, h⟩
  case fadr off x =>
    obtain ⟨h, hx⟩ := evE_some h hA
    obtain ⟨id, o, ex, h⟩ := ptrV_some h
    rw [ex] at hx
    exact ⟨0, _, H, nx, _, by simp only [opA, puA, ex, frcN_eq]; rfl, hA.rf hx, h⟩
  case fld ag off n x =>
    simp only [opE] at h
    split at h
    · obtain ⟨h, hx⟩ := evE_some h hA
      obtain ⟨l, ex, h⟩ := aggV_some h
      rw [ex] at hx
      obtain ⟨v, e, h⟩ := nthV_some h
      exact ⟨0, v, H, nx, _, by simp only [opA, puA, fldA, ex, e], hA.rf hx, h⟩
    · exact genE_some fns sum hA h rfl
  case ixS s x ix =>
    obtain ⟨h, hx⟩ := evE_some h hA
    obtain ⟨id, off, len, ex, cap, es, e1, h⟩ := slV_some h
    rw [e1] at hx
    obtain ⟨h, hi⟩ := evE_some h hA
    obtain ⟨q, z, e2, h⟩ := intV_some h
    rw [e2] at hi
    obtain ⟨e3, h⟩ := eqN_some h
    obtain ⟨n, rfl, e4, h⟩ := idxI_some h
    refine ⟨0, _, H, nx, _, ?_, (hA.rf hx).rf hi, h⟩
    simp only [opA, puA, e1, e2, idx, e3, if_true, frcN_eq]
    rw [if_pos e4]
    rfl
  case ixA n s x ix =>
    obtain ⟨h, hx⟩ := evE_some h hA
    obtain ⟨id, o, e1, h⟩ := ptrV_some h
    rw [e1] at hx
    obtain ⟨h, hi⟩ := evE_some h hA
    obtain ⟨q, z, e2, h⟩ := intV_some h
    rw [e2] at hi
    obtain ⟨n, rfl, e4, h⟩ := idxI_some h
    refine ⟨0, _, H, nx, _, ?_, (hA.rf hx).rf hi, h⟩
    simp only [opA, puA, e1, e2, idx, frcN_eq]
    rw [if_pos e4]
    rfl
  case ixstr x ix =>
    obtain ⟨h, hx⟩ := evE_some h hA
    obtain ⟨l, e1, h⟩ := strV_some h
    rw [e1] at hx
    obtain ⟨h, hi⟩ := evE_some h hA
    obtain ⟨q, z, e2, h⟩ := intV_some h
    rw [e2] at hi
    obtain ⟨n, rfl, h⟩ := natI_some h
    obtain ⟨e3, b, e4, h⟩ := nthNR_some h
    refine ⟨0, _, H, nx, _, ?_, (hA.rf hx).rf hi, h⟩
    simp only [opA, puA, e1, e2, idx]
    rw [if_pos e3]
    simp only [e4]
  case extr i x =>
    obtain ⟨h, hx⟩ := evE_some h hA
    obtain ⟨l, e1, h⟩ := tupV_some h
    rw [e1] at hx
    obtain ⟨v, e2, h⟩ := nthV_some h
    exact ⟨0, v, H, nx, _, by simp only [opA, puA, e1, e2], hA.rf hx, h⟩
  case call g args =>
    have dynOk : evE E g (fun gv => evsE E args fun l => dynV dyn gv l H nx fun v H' nx' => K E v H' nx') = true → OpW fns sum T H nx (.call g args) K := by
      intro h
      have h := (evE_some h hA).1
      have h := evsE_some hA h
      rcases fnK_some h with ⟨f, fs, cs, e1, h⟩ | ⟨_, _, h⟩
      · rw [appK_eq, appK_eq] at h
        obtain ⟨n, v, H', nx', e, h⟩ := hd _ _ _ _ _ h
        exact ⟨n, v, H', nx', E, by simp only [opA, e1]; exact e, hA, h⟩
      · cases h
    simp only [opE] at h
    split at h
    · rename_i f
      have h := evsE_some hA h
      obtain ⟨n, v, H', nx', e, h⟩ := hc _ _ _ _ _ h
      exact ⟨n, v, H', nx', E, by simp only [opA, ev, List.nil_append, List.append_nil]; exact e, hA, h⟩
    · exact dynOk h
  case len q x =>
    simp only [opE] at h
    split at h
    · have h := (evE_some h hA).1
      rcases lenV_some h with ⟨id, off, len, ex, cap, es, e1, h⟩ | ⟨e1, h⟩
      · exact ⟨0, _, H, nx, E, by simp only [opA, puA, e1, if_true], hA, h⟩
      · exact ⟨0, _, H, nx, E, by simp only [opA, puA, e1, if_true], hA, h⟩
    · obtain ⟨h, hx⟩ := evE_some h hA
      obtain ⟨l, e1, h⟩ := strV_some h
      rw [e1] at hx
      exact ⟨0, _, H, nx, _, by simp only [opA, puA, e1, if_true], hA.rf hx, h⟩
    · cases h
  case app n b s x =>
    have h := (evE_some h hA).1
    have h := (evE_some h hA).1
    obtain ⟨v, H', nx', e, h⟩ := apK_some h
    exact ⟨0, v, H', nx', E, by simp only [opA, e], hA, h⟩
  case cvs x => exact genE_some fns sum hA h rfl
  case s2b x => exact genE_some fns sum hA h rfl
  case b2s x => exact genE_some fns sum hA h rfl
  case slA n s x lo hi => exact genE_some fns sum hA h rfl
  case ixv ag n s x i => exact genE_some fns sum hA h rfl
  case cap x => exact genE_some fns sum hA h rfl
  case ext q xs => exact genE_some fns sum hA h rfl
  case copy n b d x =>
    have h : genE (.copy n b d x) E H nx K = true := h
    obtain ⟨_, h⟩ := allE_some h
    obtain ⟨v, H', nx', e, h⟩ := opK_some (noC_ok (callA fns sum (exec fns sum 0))) (noY_ok (yieldA (exec fns sum 0))) h
    simp [AOp.cl, opA, puA] at e
  case bad =>
    have h : genE .bad E H nx K = true := h
    obtain ⟨_, h⟩ := allE_some h
    obtain ⟨v, H', nx', e, h⟩ := opK_some (noC_ok (callA fns sum (exec fns sum 0))) (noY_ok (yieldA (exec fns sum 0))) h
    simp [AOp.cl, opA, puA] at e
end
end Go.Abs

namespace Go.Abs

theorem app_abs {T : PT AV} {H : AHeap} {nx : Pos} {F : KE} : ∀ {vs : List (Pos × VT)} {E E0 : PT AV}, appE vs E (absE vs E0 F) H nx = true → Ag E T → Ag E0 T → ∃ E', Ag E' T ∧ F E' H nx = true
  | [], E, E0, h, _, h0 => ⟨E0, h0, h⟩
  | (p, .v) :: vs, E, E0, h, hA, h0 => by
    simp only [appE, absE] at h
    obtain ⟨h, hp⟩ := evE_some h hA
    exact app_abs h hA (h0.known (hp p rfl))
  | (p, .i q) :: vs, E, E0, h, hA, h0 => by
    simp only [appE, absE] at h
    obtain ⟨h, hp⟩ := evE_some h hA
    obtain ⟨z, e, h⟩ := inV_some h
    rw [e] at hp
    exact app_abs h hA (h0.known (hp p rfl))
  | (p, .b) :: vs, E, E0, h, hA, h0 => by
    simp only [appE, absE] at h
    obtain ⟨h, hp⟩ := evE_some h hA
    obtain ⟨z, e, h⟩ := boolV_some h
    rw [e] at hp
    exact app_abs h hA (h0.known (hp p rfl))
theorem appF_eq {H : AHeap} {nx : Pos} : ∀ {vs : List (Pos × VT)} {E : PT AV} {c : Cur vs}, appF vs E c H nx = appE vs E c H nx
  | [], E, c => rfl
  | (p, .v) :: vs, E, c => by
    simp only [appF, appE]
    congr 1
    funext v
    exact appF_eq
  | (p, .i q) :: vs, E, c => by
    simp only [appF, appE, frcZ_eq]
    congr 1
    funext v
    congr 1
    funext z
    exact appF_eq
  | (p, .b) :: vs, E, c => by
    simp only [appF, appE, forB_eq]
    congr 1
    funext v
    congr 1
    funext z
    exact appF_eq

theorem kill_get : ∀ {ks : List Pos} {E : PT AV} {p : Pos}, PT.get p (killE ks E) = PT.get p E ∨ (PT.get p (killE ks E) = none ∧ p ∈ ks)
  | [], E, p => .inl rfl
  | q :: ks, E, p => by
    rcases kill_get (ks := ks) (E := PT.put q none E) (p := p) with h | ⟨h, h2⟩
    · by_cases e : p = q
      · subst e
        rw [PT.get_put_same] at h
        exact .inr ⟨h, List.mem_cons_self⟩
      · rw [PT.get_put_other _ _ _ _ e] at h
        exact .inl h
    · exact .inr ⟨h, List.mem_cons_of_mem _ h2⟩
theorem kill_mem {p : Pos} : ∀ (ks : List Pos) (E : PT AV), p ∈ ks → PT.get p (killE ks E) = none := by
  intro ks
  induction ks with
  | nil => intro E h; exact absurd h List.not_mem_nil
  | cons q ks ih =>
    intro E h
    by_cases hm : p ∈ ks
    · exact ih _ hm
    · have e : p = q := (List.mem_cons.1 h).resolve_right hm
      have h3 : PT.get p (PT.put q none E) = none := by rw [e]; exact PT.get_put_same _ _ _
      show PT.get p (killE ks (PT.put q none E)) = none
      rcases kill_get (ks := ks) (E := PT.put q none E) (p := p) with h | ⟨h, _⟩
      · rw [h]; exact h3
      · exact h
theorem kill_twice {ks : List Pos} {E : PT AV} {p : Pos} : PT.get p (killE ks (killE ks E)) = PT.get p (killE ks E) := by
  rcases kill_get (ks := ks) (E := killE ks E) (p := p) with h | ⟨h, h2⟩
  · exact h
  · rw [h, kill_mem _ _ h2]

theorem Ag.of_same {E T T' : PT AV} (h : Ag E T) {ks : List Pos} (hs : ∀ p, p ∉ ks → PT.get p T' = PT.get p T) : Ag (killE ks E) T' := by
  have key : ∀ (ks' : List Pos) (E : PT AV), (∀ p v, PT.get p E = some v → p ∉ ks' → PT.get p T' = some v) → Ag (killE ks' E) T' := by
    intro ks'
    induction ks' with
    | nil => intro E h p v hp; exact h p v hp List.not_mem_nil
    | cons q ks' ih =>
      intro E h
      refine ih _ fun p v hp hn => ?_
      by_cases e : p = q
      · subst e; rw [PT.get_put_same] at hp; cases hp
      · rw [PT.get_put_other _ _ _ _ e] at hp
        exact h p v hp (fun hm => by rcases List.mem_cons.1 hm with r | r; exact e r; exact hn r)
  exact key ks E fun p v hp hn => by rw [hs p hn]; exact h p v hp

section
variable {cf : CallR} {yf : YieldR}
theorem putT_same {d : Option Pos} {v : AV} {T : PT AV} {p : Pos} (h : d ≠ some p) : PT.get p (putT d v T) = PT.get p T := by
  cases d with
  | none => rfl
  | some q => exact PT.get_put_other _ _ _ _ (fun e => h (by rw [e]))
theorem seqA_same : ∀ {os : List AOper} {T : PT AV} {H : AHeap} {nx : Pos} {T' : PT AV} {H' : AHeap} {nx' : Pos}, seqA cf yf os T H nx = some (T', H', nx') → ∀ p, p ∉ dsL os → PT.get p T' = PT.get p T
  | [], T, H, nx, T', H', nx', h, p, _ => by simp only [seqA, Option.some.injEq, Prod.mk.injEq] at h; rw [h.1]
  | ⟨d, g, op⟩ :: os, T, H, nx, T', H', nx', h, p, hp => by
    have hd : d ≠ some p ∧ p ∉ dsL os := by
      cases d with
      | none => exact ⟨by simp, hp⟩
      | some q => simp only [dsL, List.mem_cons, not_or] at hp; exact ⟨fun e => hp.1 (by cases e; rfl), hp.2⟩
    simp only [seqA] at h
    split at h
    · split at h
      · rw [seqA_same h p hd.2, putT_same hd.1]
      · cases h
    · rw [seqA_same h p hd.2, putT_same hd.1]
    · cases h
theorem seqA_app : ∀ {os os' : List AOper} {T : PT AV} {H : AHeap} {nx : Pos} {T1 : PT AV} {H1 : AHeap} {nx1 : Pos}, seqA cf yf os T H nx = some (T1, H1, nx1) → seqA cf yf (os ++ os') T H nx = seqA cf yf os' T1 H1 nx1
  | [], os', T, H, nx, T1, H1, nx1, e => by simp only [seqA, Option.some.injEq, Prod.mk.injEq] at e; rw [e.1, e.2.1, e.2.2]; rfl
  | o :: os, os', T, H, nx, T1, H1, nx1, e => by
    rw [List.cons_append]
    simp only [seqA] at e
    conv => lhs; unfold seqA
    split at e
    · split at e
      · rename_i ho
        first | exact seqA_app e | (rw [ho]; exact seqA_app e)
      · cases e
    · exact seqA_app e
    · cases e
theorem drwA_same : ∀ {os : List (Nat × Nat × AOper)} {Ss : List AHeap} {T : PT AV} {H : AHeap} {nx : Pos} {T' : PT AV} {H' : AHeap} {nx' : Pos}, drwA cf yf os Ss T H nx = some (T', H', nx') → ∀ p, p ∉ dsD os → PT.get p T' = PT.get p T
  | [], Ss, T, H, nx, T', H', nx', h, p, _ => by simp only [drwA, Option.some.injEq, Prod.mk.injEq] at h; rw [h.1]
  | (s, k, ⟨d, g, op⟩) :: os, Ss, T, H, nx, T', H', nx', h, p, hp => by
    have hd : d ≠ some p ∧ p ∉ dsD os := by
      cases d with
      | none => exact ⟨by simp, hp⟩
      | some q => simp only [dsD, List.mem_cons, not_or] at hp; exact ⟨fun e => hp.1 (by cases e; rfl), hp.2⟩
    simp only [drwA] at h
    split at h
    · split at h
      · split at h
        · split at h
          · rw [drwA_same h p hd.2, putT_same hd.1]
          · cases h
        · rw [drwA_same h p hd.2, putT_same hd.1]
        · rw [drwA_same h p hd.2, putT_same hd.1]
      · cases h
    · split at h
      · rw [drwA_same h p hd.2, putT_same hd.1]
      · rw [drwA_same h p hd.2, putT_same hd.1]
    · cases h
end

section
variable (fns : Nat → Option AFn) (sum : Nat → List AV → AHeap → Option AV)

theorem exec_same : ∀ {n : Nat} {c : AC} {rd : Option Pos} {s : St} {x : AEx} {s' : St}, exec fns sum n c rd s = some (x, s') → ∀ p, p ∉ c.ds → PT.get p s'.T = PT.get p s.T
  | 0, c, rd, s, x, s', h, p, hp => by cases h
  | n + 1, c, rd, s, x, s', h, p, hp => by
    rw [exec_succ] at h
    cases c with
    | skip => simp only [execF, Option.some.injEq, Prod.mk.injEq] at h; rw [← h.2]
    | reg ops =>
      simp only [execF] at h
      split at h
      · rename_i e
        simp only [Option.some.injEq, Prod.mk.injEq] at h
        rw [← h.2]; exact seqA_same e p hp
      · cases h
    | drw ops =>
      simp only [execF] at h
      split at h
      · rename_i e
        simp only [Option.some.injEq, Prod.mk.injEq] at h
        rw [← h.2]; exact drwA_same e p hp
      · cases h
    | seq a b =>
      simp only [AC.ds, List.mem_append, not_or] at hp
      simp only [execF] at h
      split at h
      · rename_i e
        rw [exec_same h p hp.2, exec_same e p hp.1]
      · exact exec_same h p hp.1
    | cond y a b =>
      simp only [AC.ds, List.mem_append, not_or] at hp
      simp only [execF] at h
      split at h
      · exact exec_same h p hp.1
      · exact exec_same h p hp.2
      · cases h
    | block id a =>
      simp only [execF] at h
      split at h
      · rename_i e
        split at h
        · simp only [Option.some.injEq, Prod.mk.injEq] at h; rw [← h.2]; exact exec_same e p hp
        · simp only [Option.some.injEq, Prod.mk.injEq] at h; rw [← h.2]; exact exec_same e p hp
      · exact exec_same h p hp
    | loop a =>
      simp only [execF] at h
      split at h
      · rename_i e
        rw [exec_same h p hp, exec_same e p hp]
      · exact exec_same h p hp
    | rng f ps asg body =>
      simp only [execF] at h
      split at h
      · cases h
      · split at h
        · split at h
          · split at h <;> first
              | (cases h; done)
              | (simp only [Option.some.injEq, Prod.mk.injEq] at h; rw [← h.2])
          · cases h
        · cases h
    | exit id => simp only [execF, Option.some.injEq, Prod.mk.injEq] at h; rw [← h.2]
    | ret => simp only [execF, Option.some.injEq, Prod.mk.injEq] at h; rw [← h.2]
    | bad => cases h

theorem grdE_some {g : Option (Pos × Bool)} {E T : PT AV} {K0 K1 : PT AV → Bool} (h : grdE g E K0 K1 = true) (hA : Ag E T) :
    (wantA T g = some true ∧ ∃ E', Ag E' T ∧ K1 E' = true) ∨ (wantA T g = some false ∧ ∃ E', Ag E' T ∧ K0 E' = true) := by
  match g, h with
  | none, h => exact .inl ⟨rfl, E, hA, h⟩
  | some (p, true), h =>
    have h : evE E (.t p) (fun v => grdV v (fun b => iteS b (K1 (PT.put p (some (.bool true)) E)) (K0 (PT.put p (some (.bool false)) E))) (K0 E)) = true := h
    obtain ⟨h, hp⟩ := evE_some h hA
    have hp := hp p rfl
    rcases grdV_some h with ⟨b, e, h⟩ | ⟨e, h⟩
    · rw [e] at hp
      rcases iteS_some h with ⟨rfl, h⟩ | ⟨rfl, h⟩
      · exact .inl ⟨by simp only [wantA, hp]; rfl, _, hA.known hp, h⟩
      · exact .inr ⟨by simp only [wantA, hp]; rfl, _, hA.known hp, h⟩
    · rw [e] at hp
      exact .inr ⟨by simp only [wantA, hp], E, hA, h⟩
  | some (p, false), h =>
    have h : evE E (.t p) (fun v => grdV v (fun b => iteS b (K0 (PT.put p (some (.bool true)) E)) (K1 (PT.put p (some (.bool false)) E))) (K0 E)) = true := h
    obtain ⟨h, hp⟩ := evE_some h hA
    have hp := hp p rfl
    rcases grdV_some h with ⟨b, e, h⟩ | ⟨e, h⟩
    · rw [e] at hp
      rcases iteS_some h with ⟨rfl, h⟩ | ⟨rfl, h⟩
      · exact .inr ⟨by simp only [wantA, hp]; rfl, _, hA.known hp, h⟩
      · exact .inl ⟨by simp only [wantA, hp]; rfl, _, hA.known hp, h⟩
    · rw [e] at hp
      exact .inr ⟨by simp only [wantA, hp], E, hA, h⟩

theorem ldA_cl {E T : PT AV} (hA : Ag E T) {op : AOp} (h : ∀ p ∈ op.tms, ∃ v, PT.get p E = some v) (S : AHeap) : ldA (ev .lf) S (op.cl E) = ldA (ev T) S op := by
  cases op <;> try rfl
  case load ag n a => simp only [AOp.cl, ldA, cl_ev hA (x := a) h]
  case b2s x => simp only [AOp.cl, ldA, cl_ev hA (x := x) h]
  case slA n s x lo hi =>
    have q1 := cl_ev hA (x := x) (fun p hp => h p (by simp only [AOp.tms, List.mem_append]; exact .inl (.inl hp)))
    have q2 := cl_evo hA (x := lo) (fun p hp => h p (by simp only [AOp.tms, List.mem_append]; exact .inl (.inr hp)))
    have q3 := cl_evo hA (x := hi) (fun p hp => h p (by simp only [AOp.tms, List.mem_append]; exact .inr hp))
    simp only [AOp.cl, ldA, q1, q2, q3]
theorem lookBack_cl {E T : PT AV} (hA : Ag E T) {op : AOp} (h : ∀ p ∈ op.tms, ∃ v, PT.get p E = some v) (v : AV) : ∀ (k : Nat) (Ss : List AHeap), lookBack (ev .lf) (op.cl E) v k Ss = lookBack (ev T) op v k Ss
  | 0, _ => by simp only [lookBack]
  | _ + 1, [] => by simp only [lookBack]
  | k + 1, S :: Ss => by
    simp only [lookBack, ldA_cl hA h S, lookBack_cl hA h v k Ss]
theorem lokE_some {s k : Nat} {op : AOp} {E T : PT AV} {v : AV} {Ss : Option (List AHeap)} {x : Bool} (h : lokE s k op E v Ss x = true) (hA : Ag E T) {l : List AHeap} (hS : ∀ l', Ss = some l' → l' = l) :
    x = true ∧ (s = 1 → lookBack (ev T) op v k l = true) := by
  unfold lokE at h
  split at h
  · split at h
    · exact ⟨h, fun _ => by simp only [lookBack]⟩
    · split at h
      · obtain ⟨h1, h⟩ := allE_some h
        obtain ⟨h2, h⟩ := lookK_some h
        refine ⟨h, fun _ => ?_⟩
        rw [evR_eq, lookBack_cl hA h1] at h2
        rw [← hS _ rfl]; exact h2
      · cases h
  · rename_i hs
    exact ⟨h, fun e => absurd e hs⟩

variable {ck dyn : CallK}

theorem opsE_reg (hc : CallE fns sum ck) (hd : CallE fns sum dyn) : ∀ (l : SL) {E T : PT AV} {Ss : Option (List AHeap)} {H : AHeap} {nx : Pos} {K : KSE}, opsE ck dyn l E Ss H nx K = true → Ag E T →
    ∃ n T' H' nx' E' Ss', seqA (callA fns sum (exec fns sum n)) (yieldA (exec fns sum n)) l.r T H nx = some (T', H', nx') ∧ Ag E' T' ∧ K E' Ss' H' nx' = true
  | .nil, E, T, Ss, H, nx, K, h, hA => ⟨0, T, H, nx, E, Ss, rfl, hA, h⟩
  | .op s k m ⟨d, g, op⟩ r, E, T, Ss, H, nx, K, h, hA => by
    have h : grdE g E (fun E => opsE ck dyn r (ptD d undefA E) (pushE s H Ss) H nx K)
      (fun E => opE ck dyn m op E H nx fun E v H' nx' => lokE s k op E v Ss (opsE ck dyn r (ptD d v E) (pushE s H Ss) H' nx' K)) = true := h
    rcases grdE_some h hA with ⟨e1, E1, hA1, h⟩ | ⟨e1, E1, hA1, h⟩
    · obtain ⟨n1, v, H1, nx1, E2, e2, hA2, h⟩ := opE_some fns sum hc hd hA1 h
      obtain ⟨h, _⟩ := lokE_some h hA2 (l := Ss.getD []) (fun l' e => by rw [e]; rfl)
      obtain ⟨n2, T3, H3, n3, E3, S3, e3, hA3, h⟩ := opsE_reg hc hd r h (hA2.ptD d v)
      obtain ⟨c1, y1⟩ := cy_le fns sum (Nat.le_add_right n1 n2)
      obtain ⟨c2, y2⟩ := cy_le fns sum (Nat.le_add_left n2 n1)
      exact ⟨n1 + n2, T3, H3, n3, E3, S3, by simp only [SL.r, seqA, e1, opA_le c1 y1 e2, seqA_le c2 y2 e3], hA3, h⟩
    · obtain ⟨n2, T3, H3, n3, E3, S3, e3, hA3, h⟩ := opsE_reg hc hd r h (hA1.ptD d undefA)
      exact ⟨n2, T3, H3, n3, E3, S3, by simp only [SL.r, seqA, e1, e3], hA3, h⟩
  | .join vs a r, E, T, Ss, H, nx, K, h, hA => by
    have h : opsE ck dyn a E Ss H nx (fun E' _ H' nx' => appE vs E' (absE vs (killE (dsL a.r) E) fun E' H' nx' => opsE ck dyn r E' (@Bool.rec (fun _ => Option (List AHeap)) none Ss a.no3) H' nx' K) H' nx') = true := h
    obtain ⟨n1, T1, H1, nx1, E1, S1, e1, hA1, h⟩ := opsE_reg hc hd a h hA
    obtain ⟨E2, hA2, h⟩ := app_abs h hA1 (hA.of_same (seqA_same e1))
    obtain ⟨n2, T3, H3, n3, E3, S3, e3, hA3, h⟩ := opsE_reg hc hd r h hA2
    obtain ⟨c1, y1⟩ := cy_le fns sum (Nat.le_add_right n1 n2)
    obtain ⟨c2, y2⟩ := cy_le fns sum (Nat.le_add_left n2 n1)
    refine ⟨n1 + n2, T3, H3, n3, E3, S3, ?_, hA3, h⟩
    show seqA _ _ (a.r ++ r.r) T H nx = _
    rw [seqA_app (seqA_le c1 y1 e1)]
    exact seqA_le c2 y2 e3

theorem ds_eq : ∀ l : SL, dsL l.r = dsD l.d
  | .nil => rfl
  | .op s k m ⟨d, g, op⟩ r => by
    simp only [SL.r, SL.d, dsL, dsD, ds_eq r]
  | .join vs a r => by
    have hL : ∀ l m : List AOper, dsL (l ++ m) = dsL l ++ dsL m := by
      intro l m
      induction l with
      | nil => rfl
      | cons o l ih =>
        obtain ⟨d, g, op⟩ := o
        cases d <;> simp [dsL, ih]
    have hD : ∀ l m : List (Nat × Nat × AOper), dsD (l ++ m) = dsD l ++ dsD m := by
      intro l m
      induction l with
      | nil => rfl
      | cons o l ih =>
        obtain ⟨s, k, d, g, op⟩ := o
        cases d <;> simp [dsD, ih]
    simp only [SL.r, SL.d, hL, hD, ds_eq a, ds_eq r]

/-- The states before, behind an operation. -/
def pushA (s : Nat) (H : AHeap) (S : List AHeap) : List AHeap := match s with
  | 3 => H :: S
  | _ => S
theorem push_ok {s : Nat} {H : AHeap} {Ss : Option (List AHeap)} {S : List AHeap} (h : ∀ l', Ss = some l' → l' = S) : ∀ l', pushE s H Ss = some l' → l' = pushA s H S := by
  intro l' e
  unfold pushE at e
  unfold pushA
  split at e
  · split at e
    · rename_i l
      cases e
      rw [h _ rfl]
      rfl
    · cases e
  · rename_i hs
    split
    · exact absurd rfl hs
    · exact h _ e

theorem drwA_do {cf : CallR} {yf : YieldR} {s k : Nat} {o : AOper} {os : List (Nat × Nat × AOper)} {S : List AHeap} {T : PT AV} {H : AHeap} {nx : Pos} {v : AV} {H1 : AHeap} {nx1 : Pos} (e1 : wantA T o.guard = some true) (e2 : opA cf yf (ev T) H nx o.op = some (v, H1, nx1))
    (e3 : s = 1 → lookBack (ev T) o.op v k S = true) : drwA cf yf ((s, k, o) :: os) S T H nx = drwA cf yf os (pushA s H S) (putT o.dst v T) H1 nx1 := by
  conv => lhs; unfold drwA
  simp only [e1, e2]
  split
  · simp only [e3 rfl, pushA]
  · rfl
  · rename_i h1 h3
    unfold pushA
    split
    · exact absurd rfl h3
    · rfl
theorem drwA_skip {cf : CallR} {yf : YieldR} {s k : Nat} {o : AOper} {os : List (Nat × Nat × AOper)} {S : List AHeap} {T : PT AV} {H : AHeap} {nx : Pos} (e1 : wantA T o.guard = some false) :
    drwA cf yf ((s, k, o) :: os) S T H nx = drwA cf yf os (pushA s H S) (putT o.dst undefA T) H nx := by
  conv => lhs; unfold drwA
  simp only [e1]
  split
  · rfl
  · rename_i h3
    unfold pushA
    split
    · exact absurd rfl h3
    · rfl

theorem opsE_drw (hc : CallE fns sum ck) (hd : CallE fns sum dyn) : ∀ (l : SL) {E T : PT AV} {Ss : Option (List AHeap)} {S : List AHeap} {H : AHeap} {nx : Pos} {K : KSE}, opsE ck dyn l E Ss H nx K = true → Ag E T → (∀ l', Ss = some l' → l' = S) →
    ∃ n T' H' nx' E' Ss' S', (∀ (os : List (Nat × Nat × AOper)) (m : Nat), n ≤ m → drwA (callA fns sum (exec fns sum m)) (yieldA (exec fns sum m)) (l.d ++ os) S T H nx = drwA (callA fns sum (exec fns sum m)) (yieldA (exec fns sum m)) os S' T' H' nx') ∧
      Ag E' T' ∧ (∀ l', Ss' = some l' → l' = S') ∧ (l.no3 = true → S' = S) ∧ K E' Ss' H' nx' = true
  | .nil, E, T, Ss, S, H, nx, K, h, hA, hS => ⟨0, T, H, nx, E, Ss, S, fun _ _ _ => rfl, hA, hS, fun _ => rfl, h⟩
  | .op s k m0 ⟨d, g, op⟩ r, E, T, Ss, S, H, nx, K, h, hA, hS => by
    have h : grdE g E (fun E => opsE ck dyn r (ptD d undefA E) (pushE s H Ss) H nx K)
      (fun E => opE ck dyn m0 op E H nx fun E v H' nx' => lokE s k op E v Ss (opsE ck dyn r (ptD d v E) (pushE s H Ss) H' nx' K)) = true := h
    have n3 : ∀ {S' : List AHeap}, (r.no3 = true → S' = pushA s H S) → (SL.op s k m0 ⟨d, g, op⟩ r).no3 = true → S' = S := by
      intro S' h1 h2
      simp only [SL.no3] at h2
      split at h2
      · cases h2
      · rename_i hs
        rw [h1 h2]
        unfold pushA
        split
        · exact absurd rfl hs
        · rfl
    rcases grdE_some h hA with ⟨e1, E1, hA1, h⟩ | ⟨e1, E1, hA1, h⟩
    · obtain ⟨n1, v, H1, nx1, E2, e2, hA2, h⟩ := opE_some fns sum hc hd hA1 h
      obtain ⟨h, hl⟩ := lokE_some h hA2 hS
      obtain ⟨n2, T3, H3, nx3, E3, Ss3, S3, e3, hA3, hS3, hn3, h⟩ := opsE_drw hc hd r h (hA2.ptD d v) (push_ok (H := H) (s := s) hS)
      refine ⟨n1 + n2, T3, H3, nx3, E3, Ss3, S3, fun os m hm => ?_, hA3, hS3, n3 hn3, h⟩
      obtain ⟨c1, y1⟩ := cy_le fns sum (show n1 ≤ m by omega)
      show drwA _ _ ((s, k, ⟨d, g, op⟩) :: (r.d ++ os)) S T H nx = _
      rw [drwA_do e1 (opA_le c1 y1 e2) hl]
      exact e3 os m (by omega)
    · obtain ⟨n2, T3, H3, nx3, E3, Ss3, S3, e3, hA3, hS3, hn3, h⟩ := opsE_drw hc hd r h (hA1.ptD d undefA) (push_ok (H := H) (s := s) hS)
      refine ⟨n2, T3, H3, nx3, E3, Ss3, S3, fun os m hm => ?_, hA3, hS3, n3 hn3, h⟩
      show drwA _ _ ((s, k, ⟨d, g, op⟩) :: (r.d ++ os)) S T H nx = _
      rw [drwA_skip e1]
      exact e3 os m hm
  | .join vs a r, E, T, Ss, S, H, nx, K, h, hA, hS => by
    have h : opsE ck dyn a E Ss H nx (fun E' _ H' nx' => appE vs E' (absE vs (killE (dsL a.r) E) fun E' H' nx' => opsE ck dyn r E' (@Bool.rec (fun _ => Option (List AHeap)) none Ss a.no3) H' nx' K) H' nx') = true := h
    obtain ⟨n1, T1, H1, nx1, E1, Ss1, S1, e1, hA1, hS1, hn1, h⟩ := opsE_drw hc hd a h hA hS
    have hk : Ag (killE (dsL a.r) E) T1 := by
      refine hA.of_same fun p hp => drwA_same (cf := callA fns sum (exec fns sum n1)) (yf := yieldA (exec fns sum n1)) (os := a.d) (Ss := S) (H := H) (nx := nx) (H' := H1) (nx' := nx1) ?_ p (by rw [← ds_eq]; exact hp)
      have := e1 [] n1 (Nat.le_refl _)
      rw [List.append_nil] at this
      rw [this]; rfl
    obtain ⟨E2, hA2, h⟩ := app_abs h hA1 hk
    have hS2 : ∀ l', @Bool.rec (fun _ => Option (List AHeap)) none Ss a.no3 = some l' → l' = S1 := by
      intro l' e
      cases hb : a.no3 with
      | false => rw [hb] at e; cases e
      | true => rw [hb] at e; rw [hn1 hb]; exact hS _ e
    obtain ⟨n2, T3, H3, nx3, E3, Ss3, S3, e3, hA3, hS3, hn3, h⟩ := opsE_drw hc hd r h hA2 hS2
    refine ⟨n1 + n2, T3, H3, nx3, E3, Ss3, S3, fun os m hm => ?_, hA3, hS3, fun hb => ?_, h⟩
    · show drwA _ _ ((a.d ++ r.d) ++ os) S T H nx = _
      rw [List.append_assoc, e1 _ m (by omega), e3 _ m (by omega)]
    · have hb : and a.no3 r.no3 = true := hb
      rw [Bool.and_eq_true] at hb
      rw [hn3 hb.2, hn1 hb.1]

/-! ### Code -/
def CW (c : AC) (T : PT AV) (H : AHeap) (nx : Pos) (Q : AEx → PT AV → AHeap → Pos → Prop) : Prop :=
  ∃ n x T' H' nx', exec fns sum n c none ⟨T, [], H, nx⟩ = some (x, ⟨T', [], H', nx'⟩) ∧ Q x T' H' nx'

/-- What the continuations say. -/
def QE (KN : KE) (KX : KXE) (KR : KE) (x : AEx) (T' : PT AV) (H' : AHeap) (nx' : Pos) : Prop := match x with
  | .normal => ∃ E', Ag E' T' ∧ KN E' H' nx' = true
  | .exit i => ∃ E', Ag E' T' ∧ KX i E' H' nx' = true
  | .ret => ∃ E', Ag E' T' ∧ KR E' H' nx' = true

theorem cmp_some (hc : CallE fns sum ck) (hd : CallE fns sum dyn) {fuel : Nat} : ∀ (c : SC) {E T : PT AV} {H : AHeap} {nx : Pos} {KN : KE} {KX : KXE} {KR : KE}, cmp ck dyn fuel c E H nx KN KX KR = true → Ag E T → CW fns sum c.er T H nx (QE KN KX KR)
  | .skip, E, T, H, nx, KN, KX, KR, h, hA => ⟨1, .normal, T, H, nx, rfl, E, hA, h⟩
  | .ops l, E, T, H, nx, KN, KX, KR, h, hA => by
    have h : opsE ck dyn l E (some []) H nx (fun E _ H nx => KN E H nx) = true := h
    obtain ⟨n, T', H', nx', E', Ss', e, hA', h⟩ := opsE_reg fns sum hc hd l h hA
    exact ⟨n + 1, .normal, T', H', nx', by simp only [SC.er, exec_succ, execF, e], E', hA', h⟩
  | .drw l, E, T, H, nx, KN, KX, KR, h, hA => by
    have h : opsE ck dyn l E (some []) H nx (fun E _ H nx => KN E H nx) = true := h
    obtain ⟨n, T', H', nx', E', Ss', S', e, hA', _, _, h⟩ := opsE_drw fns sum hc hd l h hA (S := []) (fun l' e => by cases e; rfl)
    have e := e [] n (Nat.le_refl _)
    rw [List.append_nil] at e
    exact ⟨n + 1, .normal, T', H', nx', by simp only [SC.er, exec_succ, execF, e]; rfl, E', hA', h⟩
  | .seq a b, E, T, H, nx, KN, KX, KR, h, hA => by
    have h : cmp ck dyn fuel a E H nx (fun E H nx => cmp ck dyn fuel b E H nx KN KX KR) KX KR = true := h
    obtain ⟨n1, x, T1, H1, nx1, e1, q⟩ := cmp_some hc hd a h hA
    cases x with
    | normal =>
      obtain ⟨E1, hA1, h⟩ := q
      obtain ⟨n2, x2, T2, H2, nx2, e2, q⟩ := cmp_some hc hd b h hA1
      have e1 := exec_le_of fns sum (Nat.le_add_right n1 n2) _ _ _ _ e1
      have e2 := exec_le_of fns sum (Nat.le_add_left n2 n1) _ _ _ _ e2
      exact ⟨n1 + n2 + 1, x2, T2, H2, nx2, by simp only [SC.er, exec_succ, execF, e1]; exact e2, q⟩
    | exit i => exact ⟨n1 + 1, .exit i, T1, H1, nx1, by simp only [SC.er, exec_succ, execF, e1], q⟩
    | ret => exact ⟨n1 + 1, .ret, T1, H1, nx1, by simp only [SC.er, exec_succ, execF, e1], q⟩
  | .join vs a, E, T, H, nx, KN, KX, KR, h, hA => by
    have h : cmp ck dyn fuel a E H nx (fun E' H nx => appE vs E' (absE vs (killE a.er.ds E) KN) H nx) KX KR = true := h
    obtain ⟨n1, x, T1, H1, nx1, e1, q⟩ := cmp_some hc hd a h hA
    refine ⟨n1, x, T1, H1, nx1, e1, ?_⟩
    cases x with
    | normal =>
      obtain ⟨E1, hA1, h⟩ := q
      exact app_abs h hA1 (hA.of_same (exec_same fns sum e1))
    | exit i => exact q
    | ret => exact q
  | .cond y a b, E, T, H, nx, KN, KX, KR, h, hA => by
    have h : evE E y (fun v => boolV v fun q => iteS q (cmp ck dyn fuel a E H nx KN KX KR) (cmp ck dyn fuel b E H nx KN KX KR)) = true := h
    have h := (evE_some h hA).1
    obtain ⟨q, e, h⟩ := boolV_some h
    rcases iteS_some h with ⟨rfl, h⟩ | ⟨rfl, h⟩
    · obtain ⟨n1, x, T1, H1, nx1, e1, q⟩ := cmp_some hc hd a h hA
      exact ⟨n1 + 1, x, T1, H1, nx1, by simp only [SC.er, exec_succ, execF, e]; exact e1, q⟩
    · obtain ⟨n1, x, T1, H1, nx1, e1, q⟩ := cmp_some hc hd b h hA
      exact ⟨n1 + 1, x, T1, H1, nx1, by simp only [SC.er, exec_succ, execF, e]; exact e1, q⟩
  | .block id vs a, E, T, H, nx, KN, KX, KR, h, hA => by
    have h : cmp ck dyn fuel a E H nx (fun E' H nx => appE vs E' (absE vs (killE a.er.ds E) KN) H nx) (fun i E' H nx => @Bool.rec (fun _ => Bool) (KX i E' H nx) (appE vs E' (absE vs (killE a.er.ds E) KN) H nx) (Nat.beq i id)) KR = true := h
    obtain ⟨n1, x, T1, H1, nx1, e1, q⟩ := cmp_some hc hd a h hA
    have hk := hA.of_same (exec_same fns sum e1)
    cases x with
    | normal =>
      obtain ⟨E1, hA1, h⟩ := q
      exact ⟨n1 + 1, .normal, T1, H1, nx1, by simp only [SC.er, exec_succ, execF, e1], app_abs h hA1 hk⟩
    | exit i =>
      obtain ⟨E1, hA1, h⟩ := q
      have h : @Bool.rec (fun _ => Bool) (KX i E1 H1 nx1) (appE vs E1 (absE vs (killE a.er.ds E) KN) H1 nx1) (Nat.beq i id) = true := h
      cases hb : Nat.beq i id with
      | false =>
        rw [hb] at h
        exact ⟨n1 + 1, .exit i, T1, H1, nx1, by simp only [SC.er, exec_succ, execF, e1, hb]; rfl, E1, hA1, h⟩
      | true =>
        rw [hb] at h
        exact ⟨n1 + 1, .normal, T1, H1, nx1, by simp only [SC.er, exec_succ, execF, e1, hb, if_true], app_abs h hA1 hk⟩
    | ret => exact ⟨n1 + 1, .ret, T1, H1, nx1, by simp only [SC.er, exec_succ, execF, e1], q⟩
  | .loop vs a, E, T, H, nx, KN, KX, KR, h, hA => by
    have key : ∀ (n : Nat) {E1 T1 : PT AV} {H : AHeap} {nx : Pos}, Ag E1 T1 → Ag (killE a.er.ds E) T1 →
        appF vs E1 (lp (absE vs (killE a.er.ds E) fun _ _ _ => false) (fun ih => absE vs (killE a.er.ds E) fun E' H nx => cmp ck dyn fuel a E' H nx (fun E'' H nx => appF vs E'' ih H nx) KX KR) n) H nx = true →
        CW fns sum (.loop a.er) T1 H nx (QE KN KX KR) := by
      intro n
      induction n with
      | zero =>
        intro E1 T1 H nx h1 h2 h
        rw [appF_eq] at h
        have h : appE vs E1 (absE vs (killE a.er.ds E) fun _ _ _ => false) H nx = true := h
        obtain ⟨E2, _, h⟩ := app_abs h h1 h2
        cases h
      | succ n ih =>
        intro E1 T1 H nx h1 h2 h
        rw [appF_eq] at h
        have h : appE vs E1 (absE vs (killE a.er.ds E) fun E' H nx => cmp ck dyn fuel a E' H nx (fun E'' H nx => appF vs E'' (lp (absE vs (killE a.er.ds E) fun _ _ _ => false) (fun ih => absE vs (killE a.er.ds E) fun E' H nx => cmp ck dyn fuel a E' H nx (fun E'' H nx => appF vs E'' ih H nx) KX KR) n) H nx) KX KR) H nx = true := h
        obtain ⟨E2, hA2, h⟩ := app_abs h h1 h2
        obtain ⟨n1, x, T3, H3, nx3, e1, q⟩ := cmp_some hc hd a h hA2
        cases x with
        | normal =>
          obtain ⟨E3, hA3, h⟩ := q
          have hk : Ag (killE a.er.ds E) T3 := by
            have := h2.of_same (exec_same fns sum e1)
            intro p v hp
            refine this p v ?_
            rw [kill_twice]; exact hp
          obtain ⟨n2, x2, T4, H4, nx4, e2, q⟩ := ih hA3 hk h
          have e1 := exec_le_of fns sum (Nat.le_add_right n1 n2) _ _ _ _ e1
          have e2 := exec_le_of fns sum (Nat.le_add_left n2 n1) _ _ _ _ e2
          exact ⟨n1 + n2 + 1, x2, T4, H4, nx4, by simp only [exec_succ, execF, e1]; exact e2, q⟩
        | exit i => exact ⟨n1 + 1, .exit i, T3, H3, nx3, by simp only [exec_succ, execF, e1], q⟩
        | ret => exact ⟨n1 + 1, .ret, T3, H3, nx3, by simp only [exec_succ, execF, e1], q⟩
    exact key fuel hA hA.kill h
  | .exit i, E, T, H, nx, KN, KX, KR, h, hA => ⟨1, .exit i, T, H, nx, rfl, E, hA, h⟩
  | .ret, E, T, H, nx, KN, KX, KR, h, hA => ⟨1, .ret, T, H, nx, rfl, E, hA, h⟩

theorem resE_some {E T : PT AV} {H : AHeap} (hA : Ag E T) : ∀ {rs : List ARes} {K : List AV → Bool}, resE rs E H K = true → ∃ l, resOf T H rs = some l ∧ K l = true
  | [], K, h => ⟨[], rfl, h⟩
  | .tmp p :: rs, K, h => by
    have h : evE E (.t p) (fun v => resE rs E H fun l => K (v :: l)) = true := h
    obtain ⟨l, e, h⟩ := resE_some hA (rs := rs) (evE_some h hA).1
    exact ⟨_, by simp only [resOf, e], h⟩
  | .cell p ag n :: rs, K, h => by
    have h : evE E (.t p) (fun a => ptrV a fun id off => match (generalizing := false) ag with
        | false => ld1 id off H fun v => resE rs E H fun l => K (v :: l)
        | true => ldL id off n H fun m => resE rs E H fun l => K (.agg m :: l)) = true := h
    have h := (evE_some h hA).1
    obtain ⟨id, off, ex, h⟩ := ptrV_some h
    cases ag with
    | false =>
      obtain ⟨v, e, h⟩ := ld1_some (n := n) (a := .t p) h ex
      obtain ⟨l, e2, h⟩ := resE_some hA (rs := rs) (K := fun l => K (v :: l)) h
      exact ⟨_, by simp only [resOf, e, e2], h⟩
    | true =>
      obtain ⟨m, e, h⟩ := ldL_some (a := .t p) h ex
      obtain ⟨l, e2, h⟩ := resE_some hA (rs := rs) (K := fun l => K (.agg m :: l)) h
      exact ⟨_, by simp only [resOf, e, e2], h⟩

/-- A function of the program's, run by its annotated code. -/
theorem funE_some (hc : CallE fns sum ck) (hd : CallE fns sum dyn) {f fuel : Nat} {rs : List ARes} {c : SC} (hf : fns f = some ⟨rs, c.er⟩) (hs : ∀ a H, sum f a H = none) {l : List AV} {H : AHeap} {nx : Pos} {k : AV → AHeap → Pos → Bool} (h : funE ck dyn fuel rs c l H nx k = true) :
    ∃ n v H' nx', callA fns sum (exec fns sum n) f l H nx = some (v, H', nx') ∧ k v H' nx' = true := by
  obtain ⟨n, x, T, H', nx', e, q⟩ := cmp_some fns sum hc hd c h (T := bindT l 0 .lf) (fun _ _ h => h)
  have fin : ∀ {E : PT AV}, Ag E T → endE rs k E H' nx' = true → ∃ v, endFn ⟨rs, c.er⟩ ⟨T, [], H', nx'⟩ = some (v, H', nx') ∧ k v H' nx' = true := by
    intro E hA h
    obtain ⟨l, e, h⟩ := resE_some hA h
    exact ⟨tupOf l, by simp only [endFn, unmark, e], by
      have : tupE l = tupOf l := by
        cases l with
        | nil => rfl
        | cons a l => cases l <;> rfl
      rw [← this]; exact h⟩
  cases x with
  | normal =>
    obtain ⟨E, hA, h⟩ := q
    obtain ⟨v, e2, h⟩ := fin hA h
    exact ⟨n, v, H', nx', by simp only [callA, hs, hf, e]; exact e2, h⟩
  | exit i => obtain ⟨E, hA, h⟩ := q; cases h
  | ret =>
    obtain ⟨E, hA, h⟩ := q
    obtain ⟨v, e2, h⟩ := fin hA h
    exact ⟨n, v, H', nx', by simp only [callA, hs, hf, e]; exact e2, h⟩

/-- Of one function. -/
def CallE1 (f : Nat) (c : CallK) : Prop := ∀ args H nx k, c f args H nx k = true → ∃ n v H' nx', callA fns sum (exec fns sum n) f args H nx = some (v, H', nx') ∧ k v H' nx' = true
theorem ckL_ok : ∀ {l : List (Nat × CallK)}, (∀ q ∈ l, CallE1 fns sum q.1 q.2) → CallE fns sum dyn → CallE fns sum (ckL l dyn)
  | [], _, hd => hd
  | q :: l, hl, hd => by
    intro f args H nx k h
    have h : @Bool.rec (fun _ => Bool) (ckL l dyn f args H nx k) (q.2 f args H nx k) (Nat.beq f q.1) = true := h
    cases hb : Nat.beq f q.1 with
    | false => rw [hb] at h; exact ckL_ok (fun r hr => hl r (List.mem_cons_of_mem _ hr)) hd f args H nx k h
    | true =>
      rw [hb] at h
      obtain rfl := Nat.eq_of_beq_eq_true hb
      exact hl q List.mem_cons_self args H nx k h
end
end Go.Abs

namespace Go.Abs
section
variable (fns : Nat → Option AFn) (sum : Nat → List AV → AHeap → Option AV)

noncomputable def rngC (ck : CallK) (f : AX) (ps : List Pos) (asg body : AC) (rd : Option Pos) (T : PT AV) (D : List Pos) (H : AHeap) (nx : Pos) (k : AEx → PT AV → List Pos → AHeap → Pos → Bool) : Bool :=
  match rd with
  | some _ => false
  | none => evK T f fun fv => fnK fv (fun g fs cs => putB nx (some .dfr) H fun H1 => succK nx fun n1 => putB n1 (some (.loop true none T ps asg body)) H1 fun H2 => succK n1 fun n2 => ck g (fs ++ (.yld n1 :: cs)) H2 n2 fun _ H' nx' =>
      match getR n1 H' with
      | some (.loop true none _ _ _ _) => putB n1 none H' fun H3 => k .normal T (nx :: D) H3 nx'
      | some (.loop false (some none) _ _ _ _) => putB n1 none H' fun H3 => k .ret T (nx :: D) H3 nx'
      | some (.loop false (some (some i)) _ _ _ _) => putB n1 none H' fun H3 => k (.exit i) T (nx :: D) H3 nx'
      | _ => false) (fun _ => false)



theorem runM_e {ek : ExecK} (h : ExecE fns sum ek) {ck : CallK} (hck : CallE fns sum ck) : ∀ (c : AC) (rd : Option Pos) (T : PT AV) (D : List Pos) (H : AHeap) (nx : Pos) (k : KX), runS c ck (yieldX ek) (rngC ck) ek rd T D H nx k = true →
    ∃ n x s, exec fns sum n c rd ⟨T, D, H, nx⟩ = some (x, s) ∧ k x s.T s.D s.H s.nx = true
  | .skip, rd, T, D, H, nx, k, hk => ⟨1, .normal, _, rfl, hk⟩
  | .reg ops, rd, T, D, H, nx, k, hk => by
    have hk : seqK ck (yieldX ek) ops T H nx (fun T H nx => k .normal T D H nx) = true := hk
    obtain ⟨n, T', H', nx', e, hk⟩ := seqK_e fns sum hck (yieldX_e fns sum h) hk
    exact ⟨n + 1, .normal, ⟨T', D, H', nx'⟩, by simp only [exec_succ, execF, e], hk⟩
  | .drw ops, rd, T, D, H, nx, k, hk => by
    have hk : drwK ck (yieldX ek) ops [] T H nx (fun T H nx => k .normal T D H nx) = true := hk
    obtain ⟨n, T', H', nx', e, hk⟩ := drwK_e fns sum hck (yieldX_e fns sum h) hk
    exact ⟨n + 1, .normal, ⟨T', D, H', nx'⟩, by simp only [exec_succ, execF, e], hk⟩
  | .seq a b, rd, T, D, H, nx, k, hk => by
    obtain ⟨n1, x, s, e, hk⟩ := runM_e h hck a rd T D H nx _ hk
    cases x with
    | normal =>
      obtain ⟨n2, x2, s2, e2, hk⟩ := runM_e h hck b rd s.T s.D s.H s.nx _ hk
      have e := exec_le_of fns sum (Nat.le_add_right n1 n2) _ _ _ _ e
      have e2 := exec_le_of fns sum (Nat.le_add_left n2 n1) _ _ _ _ e2
      exact ⟨n1 + n2 + 1, x2, s2, by simp only [exec_succ, execF, e]; exact e2, hk⟩
    | exit i => exact ⟨n1 + 1, _, s, by simp only [exec_succ, execF, e], hk⟩
    | ret => exact ⟨n1 + 1, _, s, by simp only [exec_succ, execF, e], hk⟩
  | .cond x a b, rd, T, D, H, nx, k, hk => by
    have hk : evK T x (fun v => boolK v (fun _ => runS a ck (yieldX ek) (rngC ck) ek rd T D H nx k) (fun _ => runS b ck (yieldX ek) (rngC ck) ek rd T D H nx k)) = true := hk
    rw [evK_eq] at hk
    rcases boolK_some hk with ⟨e, hk⟩ | ⟨e, hk⟩
    · obtain ⟨n, x2, s2, e2, hk⟩ := runM_e h hck a rd T D H nx _ hk
      exact ⟨n + 1, x2, s2, by simp only [exec_succ, execF, e]; exact e2, hk⟩
    · obtain ⟨n, x2, s2, e2, hk⟩ := runM_e h hck b rd T D H nx _ hk
      exact ⟨n + 1, x2, s2, by simp only [exec_succ, execF, e]; exact e2, hk⟩
  | .block id a, rd, T, D, H, nx, k, hk => by
    obtain ⟨n, x, s, e, hk⟩ := runM_e h hck a rd T D H nx _ hk
    cases x with
    | normal => exact ⟨n + 1, _, s, by simp only [exec_succ, execF, e], hk⟩
    | exit i =>
      rcases iteK_some hk with ⟨hb, hk⟩ | ⟨hb, hk⟩
      · exact ⟨n + 1, .normal, s, by simp only [exec_succ, execF, e, hb, if_true], hk⟩
      · exact ⟨n + 1, .exit i, s, by simp only [exec_succ, execF, e, hb]; rfl, hk⟩
    | ret => exact ⟨n + 1, _, s, by simp only [exec_succ, execF, e], hk⟩
  | .loop a, rd, T, D, H, nx, k, hk => by
    obtain ⟨n1, x, s, e, hk⟩ := runM_e h hck a rd T D H nx _ hk
    cases x with
    | normal =>
      obtain ⟨n2, x2, s2, e2, hk⟩ := h _ _ _ _ _ _ _ hk
      have e := exec_le_of fns sum (Nat.le_add_right n1 n2) _ _ _ _ e
      have e2 := exec_le_of fns sum (Nat.le_add_left n2 n1) _ _ _ _ e2
      exact ⟨n1 + n2 + 1, x2, s2, by simp only [exec_succ, execF, e]; exact e2, hk⟩
    | exit i => exact ⟨n1 + 1, _, s, by simp only [exec_succ, execF, e], hk⟩
    | ret => exact ⟨n1 + 1, _, s, by simp only [exec_succ, execF, e], hk⟩
  | .rng f ps asg body, rd, T, D, H, nx, k, hk => by
    have hk : rngC ck f ps asg body rd T D H nx k = true := hk
    simp only [rngC, getR_eq, putB_eq, succK_eq] at hk
    split at hk
    · cases hk
    · rw [evK_eq] at hk
      rcases fnK_some hk with ⟨g, fs, cs, e1, hk⟩ | ⟨_, _, hk⟩
      · obtain ⟨n, v, H', nx', e2, hk⟩ := hck _ _ _ _ _ hk
        split at hk
        · rename_i e3
          exact ⟨n + 1, .normal, ⟨T, nx :: D, PT.put nx.succ none H', nx'⟩, by simp only [exec_succ, execF, e1, e2, e3], hk⟩
        · rename_i e3
          exact ⟨n + 1, .ret, ⟨T, nx :: D, PT.put nx.succ none H', nx'⟩, by simp only [exec_succ, execF, e1, e2, e3], hk⟩
        · rename_i i _ _ _ _ e3
          exact ⟨n + 1, .exit i, ⟨T, nx :: D, PT.put nx.succ none H', nx'⟩, by simp only [exec_succ, execF, e1, e2, e3], hk⟩
        · cases hk
      · cases hk
  | .exit id, rd, T, D, H, nx, k, hk => ⟨1, _, _, rfl, hk⟩
  | .ret, rd, T, D, H, nx, k, hk => ⟨1, _, _, rfl, hk⟩
  | .bad, rd, T, D, H, nx, k, hk => by cases hk


/-- Which functions are run by parts: 'sh dyn old'. -/
def ShOK (sh : CallK → CallK → CallK) : Prop := ∀ dyn old, CallE fns sum dyn → CallE fns sum old → CallE fns sum (sh dyn old)

variable (sh : CallK → CallK → CallK)
noncomputable def callM (ek : ExecK) : CallK := sh (sh (callX fns sum ek) (callX fns sum ek)) (callX fns sum ek)
noncomputable def execM (n : Nat) : ExecK := @Nat.rec (fun _ => ExecK) (fun _ _ _ _ _ _ _ => false) (fun _ ih => fun c rd T D H nx k => runS c (callM fns sum sh ih) (yieldX ih) (rngC (callM fns sum sh ih)) ih rd T D H nx k) n

theorem callM_e {sh : CallK → CallK → CallK} (hs : ShOK fns sum sh) {ek : ExecK} (h : ExecE fns sum ek) : CallE fns sum (callM fns sum sh ek) :=
  hs _ _ (hs _ _ (callX_e fns sum h) (callX_e fns sum h)) (callX_e fns sum h)
theorem execM_e {sh : CallK → CallK → CallK} (hs : ShOK fns sum sh) : ∀ n, ExecE fns sum (execM fns sum sh n)
  | 0 => fun _ _ _ _ _ _ _ h => by cases h
  | n + 1 => fun c rd T D H nx k h => runM_e fns sum (execM_e hs n) (callM_e fns sum hs (execM_e hs n)) c rd T D H nx k h

theorem ck_nil : ∀ q ∈ ([] : List (Nat × CallK)), CallE1 fns sum q.1 q.2 := fun _ h => absurd h List.not_mem_nil
theorem ck_cons {f : Nat} {c : CallK} {l : List (Nat × CallK)} (h : CallE1 fns sum f c) (hl : ∀ q ∈ l, CallE1 fns sum q.1 q.2) : ∀ q ∈ ((f, c) :: l), CallE1 fns sum q.1 q.2 := by
  intro q hq
  rcases List.mem_cons.1 hq with e | hq
  · subst e; exact h
  · exact hl q hq
theorem sh_node {A B : CallK → CallK → CallK} {b : Bool} {dyn old : CallK} {g : Nat} {args : List AV} {H : AHeap} {nx : Pos} {k : AV → AHeap → Pos → Bool} {C : Prop} (h : @Bool.rec (fun _ => CallK → CallK → CallK) B A b dyn old g args H nx k = true)
    (h1 : A dyn old g args H nx k = true → C) (h2 : B dyn old g args H nx k = true → C) : C := by cases b; exact h2 h; exact h1 h

/-- One of the functions that are run by parts; others by the other. -/
theorem sh_leaf {f g : Nat} {c : CallK} {old : CallK} {args : List AV} {H : AHeap} {nx : Pos} {k : AV → AHeap → Pos → Bool} (hc : CallE1 fns sum f c) (ho : CallE fns sum old) (h : @Bool.rec (fun _ => Bool) (old g args H nx k) (c g args H nx k) (Nat.beq g f) = true) :
    ∃ n v H' nx', callA fns sum (exec fns sum n) g args H nx = some (v, H', nx') ∧ k v H' nx' = true := by
  cases hb : Nat.beq g f with
  | false => rw [hb] at h; exact ho _ _ _ _ _ h
  | true => rw [hb] at h; obtain rfl := Nat.eq_of_beq_eq_true hb; exact hc _ _ _ _ h
end

section
variable {fns : Nat → Option AFn} {sum : Nat → List AV → AHeap → Option AV} {ck dyn : CallK} {f fuel : Nat} {rs : List ARes} {c : SC}
theorem ar0_ok {F : AHeap → Pos → KO → Bool} (h : F = fun  H nx k => funE ck dyn fuel rs c [] H nx k) (hc : CallE fns sum ck) (hd : CallE fns sum dyn) (hf : fns f = some ⟨rs, c.er⟩) (hs : ∀ a H, sum f a H = none) : CallE1 fns sum f (ar0 F) := by
  intro args H nx k hk
  subst h
  cases args with
  | cons a l => cases hk
  | nil => exact funE_some fns sum hc hd hf hs hk
theorem ar1_ok {F : AV → AHeap → Pos → KO → Bool} (h : F = fun a0 H nx k => funE ck dyn fuel rs c [a0] H nx k) (hc : CallE fns sum ck) (hd : CallE fns sum dyn) (hf : fns f = some ⟨rs, c.er⟩) (hs : ∀ a H, sum f a H = none) : CallE1 fns sum f (ar1 F) := by
  intro args H nx k hk
  subst h
  cases args with
  | nil => cases hk
  | cons a0 args =>
  cases args with
  | cons a l => cases hk
  | nil => exact funE_some fns sum hc hd hf hs hk
theorem ar2_ok {F : AV → AV → AHeap → Pos → KO → Bool} (h : F = fun a0 a1 H nx k => funE ck dyn fuel rs c [a0, a1] H nx k) (hc : CallE fns sum ck) (hd : CallE fns sum dyn) (hf : fns f = some ⟨rs, c.er⟩) (hs : ∀ a H, sum f a H = none) : CallE1 fns sum f (ar2 F) := by
  intro args H nx k hk
  subst h
  cases args with
  | nil => cases hk
  | cons a0 args =>
  cases args with
  | nil => cases hk
  | cons a1 args =>
  cases args with
  | cons a l => cases hk
  | nil => exact funE_some fns sum hc hd hf hs hk
theorem ar3_ok {F : AV → AV → AV → AHeap → Pos → KO → Bool} (h : F = fun a0 a1 a2 H nx k => funE ck dyn fuel rs c [a0, a1, a2] H nx k) (hc : CallE fns sum ck) (hd : CallE fns sum dyn) (hf : fns f = some ⟨rs, c.er⟩) (hs : ∀ a H, sum f a H = none) : CallE1 fns sum f (ar3 F) := by
  intro args H nx k hk
  subst h
  cases args with
  | nil => cases hk
  | cons a0 args =>
  cases args with
  | nil => cases hk
  | cons a1 args =>
  cases args with
  | nil => cases hk
  | cons a2 args =>
  cases args with
  | cons a l => cases hk
  | nil => exact funE_some fns sum hc hd hf hs hk
theorem ar4_ok {F : AV → AV → AV → AV → AHeap → Pos → KO → Bool} (h : F = fun a0 a1 a2 a3 H nx k => funE ck dyn fuel rs c [a0, a1, a2, a3] H nx k) (hc : CallE fns sum ck) (hd : CallE fns sum dyn) (hf : fns f = some ⟨rs, c.er⟩) (hs : ∀ a H, sum f a H = none) : CallE1 fns sum f (ar4 F) := by
  intro args H nx k hk
  subst h
  cases args with
  | nil => cases hk
  | cons a0 args =>
  cases args with
  | nil => cases hk
  | cons a1 args =>
  cases args with
  | nil => cases hk
  | cons a2 args =>
  cases args with
  | nil => cases hk
  | cons a3 args =>
  cases args with
  | cons a l => cases hk
  | nil => exact funE_some fns sum hc hd hf hs hk
theorem ar5_ok {F : AV → AV → AV → AV → AV → AHeap → Pos → KO → Bool} (h : F = fun a0 a1 a2 a3 a4 H nx k => funE ck dyn fuel rs c [a0, a1, a2, a3, a4] H nx k) (hc : CallE fns sum ck) (hd : CallE fns sum dyn) (hf : fns f = some ⟨rs, c.er⟩) (hs : ∀ a H, sum f a H = none) : CallE1 fns sum f (ar5 F) := by
  intro args H nx k hk
  subst h
  cases args with
  | nil => cases hk
  | cons a0 args =>
  cases args with
  | nil => cases hk
  | cons a1 args =>
  cases args with
  | nil => cases hk
  | cons a2 args =>
  cases args with
  | nil => cases hk
  | cons a3 args =>
  cases args with
  | nil => cases hk
  | cons a4 args =>
  cases args with
  | cons a l => cases hk
  | nil => exact funE_some fns sum hc hd hf hs hk
theorem ar6_ok {F : AV → AV → AV → AV → AV → AV → AHeap → Pos → KO → Bool} (h : F = fun a0 a1 a2 a3 a4 a5 H nx k => funE ck dyn fuel rs c [a0, a1, a2, a3, a4, a5] H nx k) (hc : CallE fns sum ck) (hd : CallE fns sum dyn) (hf : fns f = some ⟨rs, c.er⟩) (hs : ∀ a H, sum f a H = none) : CallE1 fns sum f (ar6 F) := by
  intro args H nx k hk
  subst h
  cases args with
  | nil => cases hk
  | cons a0 args =>
  cases args with
  | nil => cases hk
  | cons a1 args =>
  cases args with
  | nil => cases hk
  | cons a2 args =>
  cases args with
  | nil => cases hk
  | cons a3 args =>
  cases args with
  | nil => cases hk
  | cons a4 args =>
  cases args with
  | nil => cases hk
  | cons a5 args =>
  cases args with
  | cons a l => cases hk
  | nil => exact funE_some fns sum hc hd hf hs hk
theorem ar7_ok {F : AV → AV → AV → AV → AV → AV → AV → AHeap → Pos → KO → Bool} (h : F = fun a0 a1 a2 a3 a4 a5 a6 H nx k => funE ck dyn fuel rs c [a0, a1, a2, a3, a4, a5, a6] H nx k) (hc : CallE fns sum ck) (hd : CallE fns sum dyn) (hf : fns f = some ⟨rs, c.er⟩) (hs : ∀ a H, sum f a H = none) : CallE1 fns sum f (ar7 F) := by
  intro args H nx k hk
  subst h
  cases args with
  | nil => cases hk
  | cons a0 args =>
  cases args with
  | nil => cases hk
  | cons a1 args =>
  cases args with
  | nil => cases hk
  | cons a2 args =>
  cases args with
  | nil => cases hk
  | cons a3 args =>
  cases args with
  | nil => cases hk
  | cons a4 args =>
  cases args with
  | nil => cases hk
  | cons a5 args =>
  cases args with
  | nil => cases hk
  | cons a6 args =>
  cases args with
  | cons a l => cases hk
  | nil => exact funE_some fns sum hc hd hf hs hk
theorem ar8_ok {F : AV → AV → AV → AV → AV → AV → AV → AV → AHeap → Pos → KO → Bool} (h : F = fun a0 a1 a2 a3 a4 a5 a6 a7 H nx k => funE ck dyn fuel rs c [a0, a1, a2, a3, a4, a5, a6, a7] H nx k) (hc : CallE fns sum ck) (hd : CallE fns sum dyn) (hf : fns f = some ⟨rs, c.er⟩) (hs : ∀ a H, sum f a H = none) : CallE1 fns sum f (ar8 F) := by
  intro args H nx k hk
  subst h
  cases args with
  | nil => cases hk
  | cons a0 args =>
  cases args with
  | nil => cases hk
  | cons a1 args =>
  cases args with
  | nil => cases hk
  | cons a2 args =>
  cases args with
  | nil => cases hk
  | cons a3 args =>
  cases args with
  | nil => cases hk
  | cons a4 args =>
  cases args with
  | nil => cases hk
  | cons a5 args =>
  cases args with
  | nil => cases hk
  | cons a6 args =>
  cases args with
  | nil => cases hk
  | cons a7 args =>
  cases args with
  | cons a l => cases hk
  | nil => exact funE_some fns sum hc hd hf hs hk
theorem ar9_ok {F : AV → AV → AV → AV → AV → AV → AV → AV → AV → AHeap → Pos → KO → Bool} (h : F = fun a0 a1 a2 a3 a4 a5 a6 a7 a8 H nx k => funE ck dyn fuel rs c [a0, a1, a2, a3, a4, a5, a6, a7, a8] H nx k) (hc : CallE fns sum ck) (hd : CallE fns sum dyn) (hf : fns f = some ⟨rs, c.er⟩) (hs : ∀ a H, sum f a H = none) : CallE1 fns sum f (ar9 F) := by
  intro args H nx k hk
  subst h
  cases args with
  | nil => cases hk
  | cons a0 args =>
  cases args with
  | nil => cases hk
  | cons a1 args =>
  cases args with
  | nil => cases hk
  | cons a2 args =>
  cases args with
  | nil => cases hk
  | cons a3 args =>
  cases args with
  | nil => cases hk
  | cons a4 args =>
  cases args with
  | nil => cases hk
  | cons a5 args =>
  cases args with
  | nil => cases hk
  | cons a6 args =>
  cases args with
  | nil => cases hk
  | cons a7 args =>
  cases args with
  | nil => cases hk
  | cons a8 args =>
  cases args with
  | cons a l => cases hk
  | nil => exact funE_some fns sum hc hd hf hs hk
end
noncomputable def shL (f : Nat) (c : CallK → CallK) : CallK → CallK → CallK := fun dyn old g args H nx k => @Bool.rec (fun _ => Bool) (old g args H nx k) (c dyn g args H nx k) (Nat.beq g f)
noncomputable def shN (m : Nat) (A B : CallK → CallK → CallK) : CallK → CallK → CallK := fun dyn old g args H nx k => @Bool.rec (fun _ => CallK → CallK → CallK) B A (Nat.ble g m) dyn old g args H nx k
end Go.Abs
