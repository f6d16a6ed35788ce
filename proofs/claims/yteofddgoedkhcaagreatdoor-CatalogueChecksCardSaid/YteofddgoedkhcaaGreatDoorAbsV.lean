/- The abstract interpreter, part V: the chosen order: its states; what surely comes before what. -/
import Derived.Test.YteofddgoedkhcaaGreatDoorAbsU
namespace Go.Abs

/-! ### The states of the chosen order -/
structure Tr (cf : CallR) (yf : YieldR) (dl : List (Nat × Nat × AOper)) (t : Nat → PT AV) (h : Nat → AHeap) (x : Nat → Pos) (v : Nat → AV) (sn : Nat → List AHeap) : Prop where
  tmp : ∀ c s k o, dl[c]? = some (s, k, o) → t (c + 1) = putT o.dst (v c) (t c)
  snap : ∀ c s k o, dl[c]? = some (s, k, o) → sn (c + 1) = if s = 3 then h c :: sn c else sn c
  step : ∀ c s k o, dl[c]? = some (s, k, o) →
    (wantA (t c) o.guard = some true ∧ opA cf yf (ev (t c)) (h c) (x c) o.op = some (v c, h (c + 1), x (c + 1)) ∧ (s = 1 → lookBack (ev (t c)) o.op (v c) k (sn c) = true)) ∨
    (wantA (t c) o.guard = some false ∧ v c = undefA ∧ h (c + 1) = h c ∧ x (c + 1) = x c)

def cons0 {α : Type} (a : α) (f : Nat → α) : Nat → α
  | 0 => a
  | n + 1 => f n

theorem drw_trace {cf : CallR} {yf : YieldR} : ∀ (dl : List (Nat × Nat × AOper)) (Ss : List AHeap) (T : PT AV) (H : AHeap) (nx : Pos) (T' : PT AV) (H' : AHeap) (nx' : Pos), drwA cf yf dl Ss T H nx = some (T', H', nx') →
    ∃ t h x v sn, Tr cf yf dl t h x v sn ∧ t 0 = T ∧ h 0 = H ∧ x 0 = nx ∧ sn 0 = Ss ∧ t dl.length = T' ∧ h dl.length = H' ∧ x dl.length = nx'
  | [], Ss, T, H, nx, T', H', nx', e => by
    simp [drwA] at e
    obtain ⟨rfl, rfl, rfl⟩ := e
    exact ⟨fun _ => T, fun _ => H, fun _ => nx, fun _ => undefA, fun _ => Ss, ⟨(fun _ _ _ _ e => by simp at e), (fun _ _ _ _ e => by simp at e), (fun _ _ _ _ e => by simp at e)⟩, rfl, rfl, rfl, rfl, rfl, rfl, rfl⟩
  | (s, k, o) :: dl, Ss, T, H, nx, T', H', nx', e => by
    have key : ∀ (u : AV) (H1 : AHeap) (nx1 : Pos), ((wantA T o.guard = some true ∧ opA cf yf (ev T) H nx o.op = some (u, H1, nx1) ∧ (s = 1 → lookBack (ev T) o.op u k Ss = true)) ∨ (wantA T o.guard = some false ∧ u = undefA ∧ H1 = H ∧ nx1 = nx)) →
        drwA cf yf dl (if s = 3 then H :: Ss else Ss) (putT o.dst u T) H1 nx1 = some (T', H', nx') → ∃ t h x v sn, Tr cf yf ((s, k, o) :: dl) t h x v sn ∧ t 0 = T ∧ h 0 = H ∧ x 0 = nx ∧ sn 0 = Ss ∧ t (dl.length + 1) = T' ∧ h (dl.length + 1) = H' ∧ x (dl.length + 1) = nx' := by
      intro u H1 nx1 hstep hrest
      obtain ⟨t, h, x, v, sn, tr, t0, h0, x0, s0, t1, h1, x1⟩ := drw_trace dl _ _ _ _ _ _ _ hrest
      refine ⟨cons0 T t, cons0 H h, cons0 nx x, cons0 u v, cons0 Ss sn, ⟨fun c s' k' o' e' => ?_, fun c s' k' o' e' => ?_, fun c s' k' o' e' => ?_⟩, rfl, rfl, rfl, rfl, t1, h1, x1⟩
      · cases c with
        | zero => simp at e'; obtain ⟨rfl, rfl, rfl⟩ := e'; exact t0
        | succ c => exact tr.tmp c s' k' o' (by simpa using e')
      · cases c with
        | zero => simp at e'; obtain ⟨rfl, rfl, rfl⟩ := e'; exact s0
        | succ c => exact tr.snap c s' k' o' (by simpa using e')
      · cases c with
        | zero => simp at e'; obtain ⟨rfl, rfl, rfl⟩ := e'; simp only [cons0, h0, x0]; exact hstep
        | succ c => exact tr.step c s' k' o' (by simpa using e')
    simp only [drwA] at e
    split at e
    · rename_i hw
      split at e
      · rename_i u H1 nx1 hop
        split at e
        · split at e
          · rename_i hl
            exact key u H1 nx1 (.inl ⟨hw, hop, fun _ => hl⟩) (by simpa using e)
          · cases e
        · exact key u H1 nx1 (.inl ⟨hw, hop, fun h => by cases h⟩) (by simpa using e)
        · rename_i h1 h3
          exact key u H1 nx1 (.inl ⟨hw, hop, fun h => absurd h h1⟩) (by rw [if_neg h3]; exact e)
      · cases e
    · rename_i hw
      split at e
      · exact key undefA H nx (.inr ⟨hw, rfl, rfl, rfl⟩) (by simpa using e)
      · rename_i h3
        exact key undefA H nx (.inr ⟨hw, rfl, rfl, rfl⟩) (by rw [if_neg h3]; exact e)
    · cases e

/-! ### The check -/
theorem okAll_pair : ∀ (E acc acc3 : List Ent), okAll E acc acc3 = true → (∀ a ∈ acc, ∀ b ∈ E, okPair a b = true) ∧ ∀ (c d : Nat) (a b : Ent), c < d → E[c]? = some a → E[d]? = some b → okPair a b = true
  | [], _, _, _ => ⟨fun _ _ _ h => by simp at h, fun _ _ _ _ _ h => by simp at h⟩
  | e :: E, acc, acc3, h => by
    simp only [okAll, Bool.and_eq_true] at h
    obtain ⟨⟨h1, _⟩, h3⟩ := h
    obtain ⟨q1, q2⟩ := okAll_pair E _ _ h3
    refine ⟨fun a ha b hb => ?_, fun c d a b hcd hc hd => ?_⟩
    · rcases List.mem_cons.1 hb with rfl | hb
      · exact List.all_eq_true.1 h1 a ha
      · exact q1 a (List.mem_cons_of_mem _ ha) b hb
    · cases d with
      | zero => omega
      | succ d =>
        simp only [List.getElem?_cons_succ] at hd
        cases c with
        | zero =>
          simp at hc; subst hc
          exact q1 _ (by simp) b (List.mem_of_getElem? hd)
        | succ c => exact q2 c d a b (by omega) (by simpa using hc) hd

/-- The operations of sort 3 before a place, the latest first. -/
def acc3 (E : List Ent) (c : Nat) : List Ent := ((E.take c).filter fun e => decide (e.s = 3)).reverse

theorem okAll_load : ∀ (E acc a3 : List Ent), okAll E acc a3 = true → ∀ (c : Nat) (b : Ent), E[c]? = some b → b.s = 1 → ((acc3 E c ++ a3).drop b.k).all (fun a => b.m.testBit a.i) = true
  | [], _, _, _, _, _, h, _ => by simp at h
  | e :: E, acc, a3, h, c, b, hc, hb => by
    simp only [okAll, Bool.and_eq_true] at h
    obtain ⟨⟨_, h2⟩, h3⟩ := h
    cases c with
    | zero =>
      simp at hc; subst hc
      rw [if_pos hb] at h2
      simpa [acc3] using h2
    | succ c =>
      have := okAll_load E _ _ h3 c b (by simpa using hc) hb
      have hq : acc3 (e :: E) (c + 1) ++ a3 = acc3 E c ++ (if e.s = 3 then e :: a3 else a3) := by
        simp only [acc3, List.take_succ_cons, List.filter_cons]
        by_cases he : e.s = 3
        · simp [he]
        · simp [he]
      rw [hq]; exact this

theorem acc3_succ {E : List Ent} {c : Nat} {e : Ent} (h : E[c]? = some e) : acc3 E (c + 1) = if e.s = 3 then e :: acc3 E c else acc3 E c := by
  simp only [acc3, List.take_add_one, h, Option.toList_some, List.filter_append, List.reverse_append]
  by_cases he : e.s = 3
  · simp [he]
  · simp [he]

/-- The states before, side by side with the operations that they were before. -/
theorem snaps {cf : CallR} {yf : YieldR} {E : List Ent} {t : Nat → PT AV} {h : Nat → AHeap} {x : Nat → Pos} {v : Nat → AV} {sn : Nat → List AHeap} (tr : Tr cf yf (E.map fun e => (e.s, e.k, e.o)) t h x v sn) :
    ∀ (c : Nat), c ≤ E.length → ∀ (d : Nat) (a : Ent), d < c → E[d]? = some a → a.s = 3 → ∃ r : Nat, (acc3 E c)[r]? = some a ∧ (sn c)[r]? = some (h d)
  | 0, _, _, _, hd, _, _ => by omega
  | c + 1, hc, d, a, hd, ha, h3 => by
    obtain ⟨e, he⟩ : ∃ e, E[c]? = some e := ⟨E[c], List.getElem?_eq_getElem (by omega)⟩
    have hs := tr.snap c e.s e.k e.o (by simp [he])
    rw [acc3_succ he, hs]
    by_cases hdc : d = c
    · subst hdc
      rw [he] at ha; cases ha
      rw [if_pos h3, if_pos h3]
      exact ⟨0, rfl, rfl⟩
    · obtain ⟨r, r1, r2⟩ := snaps tr c (by omega) d a (by omega) ha h3
      by_cases he3 : e.s = 3
      · rw [if_pos he3, if_pos he3]; exact ⟨r + 1, r1, r2⟩
      · rw [if_neg he3, if_neg he3]; exact ⟨r, r1, r2⟩

theorem lookBack_spec {e : AX → AV} {op : AOp} {v : AV} : ∀ {k : Nat} {Ss : List AHeap}, lookBack e op v k Ss = true → ∀ (r : Nat) (S : AHeap), r < k → Ss[r]? = some S → ldA e S op = some v
  | 0, _, _, _, _, hr, _ => by omega
  | k + 1, [], h, _, _, _, _ => by simp [lookBack] at h
  | k + 1, S0 :: Ss, h, r, S, hr, hS => by
    simp only [lookBack] at h
    split at h
    · rename_i u hu
      split at h
      · rename_i hsame
        cases r with
        | zero => simp at hS; subst hS; rw [hu, same_eq hsame]
        | succ r => exact lookBack_spec h r S (by omega) (by simpa using hS)
      · cases h
    · cases h

/-! ### What surely comes before -/
theorem edgeMask_bit {ms : List Nat} {j : Nat} : ∀ (es : List Edge) (s0 : Nat), (es.foldl (fun s e => if Region.binds .any e && decide (e.on < ms.length) then s ||| 2 ^ e.on ||| ms.getD e.on 0 else s) s0).testBit j = true →
    s0.testBit j = true ∨ ∃ e ∈ es, Region.binds .any e = true ∧ e.on < ms.length ∧ (e.on = j ∨ (ms.getD e.on 0).testBit j = true)
  | [], s0, h => .inl h
  | e :: es, s0, h => by
    simp only [List.foldl_cons] at h
    rcases edgeMask_bit es _ h with h | ⟨e', he, q⟩
    · split at h
      · rename_i hb
        simp only [Bool.and_eq_true, decide_eq_true_eq] at hb
        simp only [Nat.testBit_or, Bool.or_eq_true, Nat.testBit_two_pow, decide_eq_true_eq] at h
        rcases h with (h | h) | h
        · exact .inl h
        · exact .inr ⟨e, by simp, hb.1, hb.2, .inl h⟩
        · exact .inr ⟨e, by simp, hb.1, hb.2, .inr h⟩
      · exact .inl h
    · exact .inr ⟨e', by simp [he], q⟩

theorem masks_spec : ∀ (os : List Oper) (ms : List Nat), ∃ r, masks os ms = ms ++ r ∧ r.length = os.length ∧ ∀ k o, os[k]? = some o → r[k]? = some (edgeMask (ms ++ r.take k) o.after.toList)
  | [], ms => ⟨[], by simp [masks], rfl, fun _ _ h => by simp at h⟩
  | o :: os, ms => by
    obtain ⟨r, e1, e2, e3⟩ := masks_spec os (ms ++ [edgeMask ms o.after.toList])
    refine ⟨edgeMask ms o.after.toList :: r, by simp [masks, e1], by simp [e2], fun k o' h => ?_⟩
    cases k with
    | zero => simp at h; subst h; simp
    | succ k =>
      have := e3 k o' (by simpa using h)
      simpa using this

theorem mask_ok {ops : Array Oper} {i j : Nat} {o : Oper} (ho : ops[i]? = some o) (h : ((masks ops.toList []).getD i 0).testBit j = true) :
    ∃ e ∈ o.after, Region.binds .any e = true ∧ e.on < i ∧ (e.on = j ∨ ((masks ops.toList []).getD e.on 0).testBit j = true) := by
  obtain ⟨r, e1, e2, e3⟩ := masks_spec ops.toList []
  simp only [List.nil_append] at e1 e3
  rw [e1] at h ⊢
  have hr := e3 i o (by simpa using ho)
  have hi : i < r.length := (List.getElem?_eq_some_iff.1 hr).1
  have hg : r.getD i 0 = edgeMask (r.take i) o.after.toList := by rw [List.getD_eq_getElem?_getD, hr]; rfl
  rw [hg] at h
  rcases edgeMask_bit _ _ h with h | ⟨e, he, b1, b2, b3⟩
  · simp at h
  · have hlt : e.on < i := by simp at b2; omega
    refine ⟨e, by simpa using he, b1, hlt, ?_⟩
    have : (r.take i).getD e.on 0 = r.getD e.on 0 := by
      rw [List.getD_eq_getElem?_getD, List.getD_eq_getElem?_getD, List.getElem?_take_of_lt hlt]
    rw [this] at b3
    exact b3

/-- What is done is closed under what surely comes before. -/
def Closed (ops : Array Oper) (listed : Array Bool) : Prop := ∀ i o, listed.getD i false = true → ops[i]? = some o → ∀ e ∈ o.after, Region.binds .any e = true → listed.getD e.on false = true

theorem anc_done {ops : Array Oper} {listed : Array Bool} (hc : Closed ops listed) (hin : ∀ i, listed.getD i false = true → ∃ o, ops[i]? = some o) : ∀ (i j : Nat), listed.getD i false = true → ((masks ops.toList []).getD i 0).testBit j = true → listed.getD j false = true := by
  intro i
  induction i using Nat.strongRecOn with
  | _ i ih =>
    intro j hi hj
    obtain ⟨o, ho⟩ := hin i hi
    obtain ⟨e, he, b1, b2, b3⟩ := mask_ok ho hj
    have hd := hc i o hi ho e he b1
    rcases b3 with rfl | b3
    · exact hd
    · exact ih e.on b2 j hd b3

theorem anc_ready {ops : Array Oper} {listed : Array Bool} (hc : Closed ops listed) (hin : ∀ i, listed.getD i false = true → ∃ o, ops[i]? = some o) {i j : Nat} (hr : i ∈ Region.ready .any ops listed)
    (hj : ((masks ops.toList []).getD i 0).testBit j = true) : listed.getD j false = true := by
  obtain ⟨_, o, ho, hall⟩ := mem_ready.1 hr
  obtain ⟨e, he, b1, b2, b3⟩ := mask_ok ho hj
  have hd := hall e he b1
  rcases b3 with rfl | b3
  · exact hd
  · exact anc_done hc hin e.on j hd b3
end Go.Abs
