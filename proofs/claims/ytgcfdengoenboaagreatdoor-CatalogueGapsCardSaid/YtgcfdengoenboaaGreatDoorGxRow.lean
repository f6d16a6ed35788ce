/- CatalogueGaps: the row. The frame is the seat's skeleton, turned for a listed table as in the worked example Mapy. -/
import Derived.Test.YtgcfdengoenboaaGreatDoorGxGaps
import Derived.Test.YtgcfdengoenboaaGreatDoorRows
import Derived.WalkKit
import Derived.ProofKit
import Derived.OpenShut
import Derived.LaidLaws
import Derived.LaidMore
import Derived.Below
import Derived.Lay
import Derived.MakeChecks
import Derived.Stop.Joined
namespace Go.Proofs.TG
open Go Go.Abs Go.Proofs
open Go.ChangeShapes Go.WideShapes Go.ChangeAt Go.RowKit
open Go.Proofs.YtgcfdengoenboaaGreatDoor
set_option linter.unusedVariables false

theorem own : ownKnob Tryz.prog.godebug = none := by kernel_rfl

/-- An array of integers that reads as such. -/
theorem ints_of_trod {H : Type} {enc : TypeId × Value → H} {P : Program} {w : World} {base : Nat} {sp : Nat → Bool} {held : Bool} {fuel : Nat} {t e : TypeId} {n : Nat} {k : IntKind} {cs : List Value} {nums : List Int} {p : List MemPlace}
    (ht : P.underlying t = some (.array n e)) (he : P.underlying e = some (.int k)) (hc : P.cellsOf e = 1) (hn : P.cellsOf t = n) (h : DataW.trod enc P w base sp held fuel t cs = some (.agg (nums.map fun m => .lit (.int k m)), p)) :
    ∀ (i : Nat) (m : Int), nums[i]? = some m → cs[i]? = some (.int k m) := by
  obtain ⟨xs, m', rfl, hx, hl, hlen, hall⟩ := DataW.trod_array ht h
  simp only [Prod.mk.injEq, DataW.agg.injEq] at hx
  obtain ⟨hx, _⟩ := hx
  intro i m hi
  have hil : i < n := by
    have := (List.getElem?_eq_some_iff.1 hi).1
    have h2 := congrArg List.length hx
    simp at h2
    omega
  have hel := hall i hil
  rw [hc, Nat.mul_one] at hel
  have hxi : xs[i]? = some xs[i] := List.getElem?_eq_getElem (by omega)
  have hdr : (cs.drop i).take 1 = [cs[i]'(by omega)] := by
    rw [List.drop_eq_getElem_cons (by omega)]
    rfl
  rw [hxi, hdr] at hel
  have h1 : (xs.map (·.1))[i]? = some (.lit (.int k m)) := by rw [← hx]; simp [hi]
  rw [List.getElem?_map, hxi] at h1
  simp only [Option.map_some, Option.some.injEq] at h1
  cases m' with
  | zero => simp [DataW.trod] at hel
  | succ m' =>
    have hget : cs[i]? = some (cs[i]'(by omega)) := List.getElem?_eq_getElem (by omega)
    rw [hget]
    generalize cs[i]'(by omega) = c at hel ⊢
    cases c <;> simp [DataW.trod, he] at hel
    rename_i k' n'
    obtain ⟨⟨rfl, _⟩, hy⟩ := hel
    rw [← hy] at h1
    simp at h1
    rw [h1]

def laid3 : List (String × DataW Unit) := [("math/bits.deBruijn32tab", Rows.laid_math_bits_deBruijn32tab), ("math/bits.deBruijn64tab", Rows.laid_math_bits_deBruijn64tab), ("internal/strconv.uint64pow10", Rows.laid_internal_strconv_uint64pow10), ("unicode/utf8.acceptRanges", Rows.laid_unicode_utf8_acceptRanges), ("strconv.ErrRange", Rows.laid_strconv_ErrRange), ("strconv.ErrSyntax", Rows.laid_strconv_ErrSyntax), ("unicode/utf8.first", Rows.laid_unicode_utf8_first)]

theorem gPow : Tryz.prog.globalNamed "internal/strconv.uint64pow10" = some 0 := by kernel_rfl
noncomputable def powTy : Nat := ((Tryz.prog.globals[0]?).map (·.type)).getD 0
theorem tPow : (Tryz.prog.globals[0]?).map (·.type) = some powTy := by kernel_rfl
noncomputable def powEl : Nat := match Tryz.prog.underlying powTy with
  | some (.array _ e) => e
  | _ => 0
theorem uPow : Tryz.prog.underlying powTy = some (.array 20 powEl) := by kernel_rfl
theorem uEl : Tryz.prog.underlying powEl = some (.int .u64) := by kernel_rfl
theorem cEl : Tryz.prog.cellsOf powEl = 1 := by kernel_rfl
theorem cPow : Tryz.prog.cellsOf powTy = 20 := by kernel_rfl

/-- What the condition says of the world: the table lies. -/
theorem laid_of {W : World} (h : laidMetH Tryz.prog laid3 W) : Laid gs H0 W := by
  have h' : laidMet Tryz.prog laid3 W := h
  obtain ⟨ps, ⟨_, _, _, _, _, _, _, _, _, _, ⟨_, _, _, _, _, _, _, _, _, _, ⟨g, t, cs, fuel, p, q, hg, ht, hvar, hd, _, _⟩, _⟩, _⟩, _⟩ := h'
  obtain rfl := Option.some.inj (gPow.symm.trans hg)
  obtain rfl := Option.some.inj (tPow.symm.trans ht)
  have hcell := World.var?_cell gPow hvar
  have key := ints_of_trod (nums := pow10s.map Int.ofNat) uPow uEl cEl cPow (by rw [hd]; rfl)
  refine ⟨fun g l hgm hl => ?_⟩
  obtain ⟨hg0, hk⟩ := H0_get hl
  obtain rfl : g = 0 := Pos.ofNat_inj hg0
  cases hk
  have at_ : ∀ (i : Nat) (v : AV), tbl[i]? = some v → ∃ c, W.cell? ⟨0, i, none⟩ = some c ∧ Rel (globEnv gs) v c := by
    intro i v hv
    simp only [tbl, List.getElem?_map, Option.map_eq_some_iff] at hv
    obtain ⟨m, hm, rfl⟩ := hv
    refine ⟨.int .u64 (Int.ofNat m), ?_, by simp [Rel]⟩
    rw [hcell i]
    have := key i (Int.ofNat m) (by simp [hm])
    simpa using this
  refine ⟨?_, by decide, at_⟩
  obtain ⟨c, hc, _⟩ := at_ 0 _ rfl
  unfold World.cell? at hc
  by_cases hlt : 0 < W.heap.size
  · exact hlt
  · rw [Array.getElem?_eq_none (by omega)] at hc; cases hc

section
variable {H : Type} {enc : TypeId × Value → H} {P : Program}
/-- 'post_of_same' where nothing that is read lies in the heap: nothing is asked of what is frozen. -/
theorem post_plain {f : Func} {s : ChangeSpec} {apart fresh handsOn again : Bool} {W W' : World} {args : Array Value} {v : Value} {ds gs : List (DataW H)}
    (hW : DataW.Whole enc P f.params.toList s.vars apart W args.toList ds gs [])
    (hres : ∀ (b : Nat) (sp : Nat → Bool) (hd : Bool), DataW.TrodAll enc P W' b sp hd f.resultTypes.toList (v.resultList f.resultTypes.size) (s.fn H (ds ++ gs)).results [])
    (hargs : ∀ sp : Nat → Bool, DataW.TrodAll enc P W' 0 sp true f.params.toList args.toList (s.fn H (ds ++ gs)).args [])
    (hvars : ∀ sp : Nat → Bool, DataW.TrodVars enc P W' sp s.vars (s.fn H (ds ++ gs)).vars [])
    (hk : W.keptBut W' (fun _ => False))
    (hok : ∀ (j : Nat) (t : TypeId) (r : Value), f.resultTypes[j]? = some t → (v.resultList f.resultTypes.size)[j]? = some r → Value.okWide P W' .any 0 t r) :
    s.post enc P f apart fresh handsOn again W args v W' := by
  refine ⟨ds, gs, [], [], [], [], hW, hres _ _ _, hargs _, hvars _, World.keptBut_mono (fun p hp => hp.elim) hk, fun _ => ?_⟩
  refine ⟨hok, _, _, ([] ++ []) ++ [], ⟨[] ++ [], [], trodAll_append (hargs _) (hres _ _ _), hvars _, rfl, ?_, ?_⟩, ?_⟩
  · intro b off hp; simp at hp
  · intro _; simp
  · intro p hp _; simp at hp
end

theorem walk (a0 : Int) (a1 : Int) (a2 : Int) (w0 : (Lit.int .u8 a0).wf = true) (w1 : (Lit.int .u8 a1).wf = true) (w2 : (Lit.int .u8 a2).wf = true) (w : World) (hl : Laid gs H0 w) :
    Calls Tryz.prog 3 #[.int .u8 a0, .int .u8 a1, .int .u8 a2] w fun e w' => e = .returned (.bool true) ∧ Keeps w w' := by
  have b : ∀ a : Int, (Lit.int .u8 a).wf = true → a = (a.toNat : Int) ∧ a.toNat < 256 := by
    intro a h
    simp [Lit.wf, IntKind.min, IntKind.max, IntKind.signed, IntKind.bits] at h
    omega
  obtain ⟨e0, l0⟩ := b a0 w0
  obtain ⟨e1, l1⟩ := b a1 w1
  obtain ⟨e2, l2⟩ := b a2 w2
  rw [e0, e1, e2]
  exact gaps_calls l0 l1 l2 hl

set_option maxRecDepth 100000 in
theorem lifted (os : Os) (started : os.Started) (H : Type) (enc : TypeId × Value → H) :
    ReturnsInHanded {} Tryz.checked os 3 .any (fun w args => (Rows.catalogueGapsSpec.pre enc Tryz.prog Tryz.f3 Rows.catalogueGapsRow.domain false w args ∧ laidMetH Tryz.prog laid3 w) ∧ sizedMet enc Tryz.prog Tryz.f3 (OpenSpec.ofChange Rows.catalogueGapsSpec) false w args)
      (Rows.catalogueGapsSpec.post enc Tryz.prog Tryz.f3 false true false false) := by
  refine returnsInHanded_of_change_and (C := Tryz.checked) (X := fun w _ => laidMetH Tryz.prog laid3 w) (fun _ _ _ hh h => h.of_heap hh) own started (by kernel_rfl) Tryz.func3
    (ChangeSpec.witness_shaped (enc := enc) (C := Tryz.checked) (os := os) (X := fun w _ => laidMetH Tryz.prog laid3 w) false (World.laidAll Tryz.prog os laid3) #[.int .u8 0, .int .u8 0, .int .u8 0] 8 (World.laidAll_os _ _ _) (World.shaped_of_ZipB (by kernel_rfl) (by kernel_rfl)) (by kernel_rfl) (by kernel_rfl) (by kernel_rfl)
      (by rw [MakeChecks.laidMetH_plain _ _ _ (by kernel_rfl)]; exact laidMet_laidAll _ (by kernel_rfl) (by kernel_rfl))) ?_
  intro W base args ds gs before hval0 hW _ _ hL _
  have hval : ∀ (j : Nat) t v, Tryz.f3.params[j]? = some t → args[j]? = some v → Value.okWide Tryz.prog W .any base t v := hval0
  have hW' := hW
  obtain ⟨p, q, hA0, hV, rfl, hfz, hnd⟩ := hW
  have hA : DataW.TrodAll enc Tryz.prog W 0 (fun _ => true) true Tryz.f3.params.toList args.toList ds p := hA0
  rw [Tryz.params3] at hA hval
  obtain ⟨v0, vs0, d0, ds0, p0, q0, hargs, rfl, rfl, h0, r0⟩ := trodAll_cons hA
  obtain ⟨v1, vs1, d1, ds1, p1, q1, rfl, rfl, rfl, h1, r1⟩ := trodAll_cons r0
  obtain ⟨v2, vs2, d2, ds2, p2, q2, rfl, rfl, rfl, h2, r2⟩ := trodAll_cons r1
  obtain ⟨rfl, rfl, rfl⟩ := trodAll_nil r2
  obtain rfl : args = #[v0, v1, v2] := by cases args; simp_all
  obtain ⟨rfl, rfl⟩ := trodVars_none hV
  obtain ⟨a0, rfl, rfl, rfl, w0⟩ := open_int Tryz.underlying5 (hval 0 5 v0 rfl rfl) h0
  obtain ⟨a1, rfl, rfl, rfl, w1⟩ := open_int Tryz.underlying5 (hval 1 5 v1 rfl rfl) h1
  obtain ⟨a2, rfl, rfl, rfl, w2⟩ := open_int Tryz.underlying5 (hval 2 5 v2 rfl rfl) h2
  clear hA0 hval0
  simp only [List.append_nil] at hW'
  refine (walk a0 a1 a2 w0 w1 w2 W (laid_of hL)).mono fun e W' ⟨he, hg⟩ => ?_
  subst he
  have hbelow : Below W.heap.size W W' := ⟨hg.os, hg.tape, hg.output, hg.size, hg.heap⟩
  exact ⟨_, rfl, post_plain hW' (fun _ _ _ => (trodAll_cons_mk (shut_bool Tryz.underlying4 _) trodAll_mk0)) (fun sp => (trodAll_cons_mk (shut_int Tryz.underlying5 w0) (trodAll_cons_mk (shut_int Tryz.underlying5 w1) (trodAll_cons_mk (shut_int Tryz.underlying5 w2) trodAll_mk0)))) (fun _ => rfl)
    (hbelow.frame _) (ok_one (by kernel_rfl) rfl (okWide_bool_mk Tryz.underlying4 _))⟩

theorem over : Rows.CatalogueGapsSaid :=
  OpenClaim.holds_of_wide 3 Tryz.f3 rfl rfl rfl rfl rfl rfl rfl ⟨rfl, rfl, rfl, rfl, rfl⟩ rfl rfl rfl rfl rfl (by kernel_rfl) Tryz.func3 (by kernel_rfl)
    (of_decide_eq_true (by kernel_rfl)) (by unfold Func.isWrapper; first | (rw [if_pos (by decide +kernel)]; kernel_rfl) | (rw [if_neg (by decide +kernel)]; exact ⟨rfl, rfl⟩))
    (fun os started H enc _ => lifted os started H enc)
end Go.Proofs.TG
