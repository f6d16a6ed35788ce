/- The tables that lie at the start. -/
import Derived.Test.YtgcfdengoenboaaGreatDoorGxFns
import Derived.Shelf.Lays
import Derived.Shelf.Strings.Search1
import Derived.Shelf.Strings.OnBuilder
import Derived.Test.YtgcfdengoenboaaGreatDoorProg
import Derived.Below
namespace Go.Proofs.TG
open Go Go.Abs Go.Proofs

def pow10s : List Nat := [1, 10, 100, 1000, 10000, 100000, 1000000, 10000000, 100000000, 1000000000, 10000000000, 100000000000, 1000000000000, 10000000000000, 100000000000000, 1000000000000000, 10000000000000000, 100000000000000000, 1000000000000000000, 10000000000000000000]
def tbl : List AV := pow10s.map fun n => .int .u64 (.ofNat n)
def H0 : AHeap := PT.put (Pos.ofNat 0) (some (.cells true tbl)) .lf
def n0 : Pos := Pos.ofNat 10
noncomputable def isT (v : AV) (_ : AHeap) (_ : Pos) : Bool := boolK v (fun _ => true) (fun _ => false)

theorem H0_get {id : Pos} {k : Blk} (h : PT.get id H0 = some k) : id = Pos.ofNat 0 ∧ k = .cells true tbl := by
  by_cases hid : id = Pos.ofNat 0
  · subst hid
    rw [H0, PT.get_put_same] at h
    cases h; exact ⟨rfl, rfl⟩
  · rw [H0, PT.get_put_other _ _ _ _ hid, PT.get_lf] at h; cases h

theorem tables : Tabs gs H0 := ⟨fun id k h => ⟨tbl, (H0_get h).2⟩, fun id k h => ⟨0, by simp [gs], (H0_get h).1⟩⟩
theorem names_low : ∀ g ∈ gs, (Pos.ofNat g).toNat < n0.toNat := by
  intro g hg
  simp [gs] at hg
  rw [n0, Pos.toNat_ofNat, Pos.toNat_ofNat]
  omega
theorem tbl_plain {ρ : Env} : ∀ v ∈ tbl, ∀ c, Rel ρ v c → Rel (globEnv gs) v c := by
  intro v hv c hr
  simp only [tbl, List.mem_map] at hv
  obtain ⟨n, _, rfl⟩ := hv
  simpa [Rel] using hr

/-- Does the heap hold the table? -/
def hasTbl (H : AHeap) : Bool := match PT.get (Pos.ofNat 0) H with
  | some (.cells true l) => sameL l tbl
  | _ => false

theorem hasTbl_sub {H : AHeap} (h : hasTbl H = true) : Sub H0 H := by
  intro id k hk
  obtain ⟨rfl, rfl⟩ := H0_get hk
  unfold hasTbl at h
  split at h
  · rename_i l hl
    rw [hl, sameL_eq h]
  · cases h

theorem laid_sim {B : Base} {ρ : Env} {H : AHeap} {w : World} (hS : Sim B ρ H w) (hG : Glob gs ρ) (h : hasTbl H = true) : Laid gs H0 w :=
  laid_of_sim hS hG (hasTbl_sub h) (fun id l hl => by obtain ⟨_, q⟩ := H0_get hl; cases q; decide) (fun id l hl v hv c hr => by obtain ⟨_, q⟩ := H0_get hl; cases q; exact tbl_plain v hv c hr)

theorem isT_spec {v : AV} {H : AHeap} {nx : Pos} (h : isT v H nx = true) : v = .bool true := by
  rcases boolK_some h with ⟨q, _⟩ | ⟨_, q⟩
  · exact q
  · cases q

end Go.Proofs.TG

namespace Go.Proofs.TG
open Go Go.Proofs Go.Shelf
def lays217_ren : Go.Shelf.Ren := ⟨fun | 217 => 217 | 266 => 232 | n => n, fun | 9 => 9 | 5 => 5 | 3 => 3 | n => n, fun | n => n⟩
theorem lays217 : Go.Proofs.Lays.n217 Tryz.prog lays217_ren := {
  mixed := by kernel_rfl
  f217 := Tryz.func217.trans (congrArg some (by kernel_rfl))
  f266 := Tryz.func232.trans (congrArg some (by kernel_rfl))
  t3 := Tryz.underlying3
  a3 := Tryz.isAgg3
  z3 := Tryz.sizeOf3
  v3 := Tryz.zeroValue3
  t5 := Tryz.underlying5
  a5 := Tryz.isAgg5
  z5 := Tryz.sizeOf5
  v5 := Tryz.zeroValue5
  t9 := Tryz.underlying9
  a9 := Tryz.isAgg9
  z9 := Tryz.sizeOf9
  v9 := Tryz.zeroValue9 }
def lays156_ren : Go.Shelf.Ren := ⟨fun | 156 => 67 | 165 => 126 | 166 => 127 | 169 => 129 | 240 => 183 | 241 => 184 | 276 => 211 | 277 => 212 | n => n, fun | 31 => 185 | 9 => 9 | 3 => 3 | 4 => 4 | 0 => 0 | 20 => 20 | 72 => 239 | 76 => 243 | 70 => 236 | 37 => 237 | 75 => 242 | 127 => 296 | 164 => 316 | 5 => 5 | 80 => 144 | n => n, fun | n => n⟩
theorem lays156 : Go.Proofs.Lays.n156 Tryz.prog lays156_ren := {
  mixed := by kernel_rfl
  f156 := Tryz.func67.trans (congrArg some (by kernel_rfl))
  f165 := Tryz.func126.trans (congrArg some (by kernel_rfl))
  f166 := Tryz.func127.trans (congrArg some (by kernel_rfl))
  f169 := Tryz.func129.trans (congrArg some (by kernel_rfl))
  f240 := Tryz.func183.trans (congrArg some (by kernel_rfl))
  f241 := Tryz.func184.trans (congrArg some (by kernel_rfl))
  f276 := Tryz.func211.trans (congrArg some (by kernel_rfl))
  f277 := Tryz.func212.trans (congrArg some (by kernel_rfl))
  t0 := Tryz.underlying0
  a0 := Tryz.isAgg0
  z0 := Tryz.sizeOf0
  v0 := Tryz.zeroValue0
  t3 := Tryz.underlying3
  a3 := Tryz.isAgg3
  z3 := Tryz.sizeOf3
  v3 := Tryz.zeroValue3
  t4 := Tryz.underlying4
  a4 := Tryz.isAgg4
  z4 := Tryz.sizeOf4
  v4 := Tryz.zeroValue4
  t9 := Tryz.underlying9
  a9 := Tryz.isAgg9
  z9 := Tryz.sizeOf9
  v9 := Tryz.zeroValue9
  t20 := Tryz.underlying20
  a20 := Tryz.isAgg20
  z20 := Tryz.sizeOf20
  v20 := Tryz.zeroValue20
  t31 := Tryz.underlying185
  a31 := Tryz.isAgg185
  z31 := Tryz.sizeOf185
  v31 := Tryz.zeroValue185
  t37 := Tryz.underlying237
  a37 := Tryz.isAgg237
  z37 := Tryz.sizeOf237
  v37 := Tryz.zeroValue237
  t70 := Tryz.underlying236
  a70 := Tryz.isAgg236
  z70 := Tryz.sizeOf236
  v70 := Tryz.zeroValue236
  t72 := Tryz.underlying239
  a72 := Tryz.isAgg239
  z72 := Tryz.sizeOf239
  v72 := Tryz.zeroValue239
  t75 := Tryz.underlying242
  a75 := Tryz.isAgg242
  z75 := Tryz.sizeOf242
  v75 := Tryz.zeroValue242
  t76 := Tryz.underlying243
  a76 := Tryz.isAgg243
  z76 := Tryz.sizeOf243
  v76 := Tryz.zeroValue243
  t127 := Tryz.underlying296
  a127 := Tryz.isAgg296
  z127 := Tryz.sizeOf296
  v127 := Tryz.zeroValue296
  t164 := Tryz.underlying316
  a164 := Tryz.isAgg316
  z164 := Tryz.sizeOf316
  v164 := Tryz.zeroValue316 }
theorem builderX : Builder.Extra Tryz.prog lays156_ren := {
  sizeBuilder := by kernel_rfl
  liesBuilder := by kernel_rfl
  t5 := Tryz.underlying5
  a5 := Tryz.isAgg5
  z5 := Tryz.sizeOf5
  v5 := Tryz.zeroValue5
  infoByte := by kernel_rfl
  cellsByte := by kernel_rfl
  sizeByte := by kernel_rfl
  neB5 := by decide }
end Go.Proofs.TG

namespace Go.Proofs.TG
open Go Go.Abs Go.Proofs

def natsS : List AV → Option (List (List Nat))
  | [] => some []
  | a :: l => match a with
    | .str s => match natsS l with
      | some r => some (s :: r)
      | none => none
    | _ => none
def findN (c : Nat) : List Nat → Nat → Option Nat
  | [], _ => none
  | a :: l, i => bif Nat.beq a c then some i else findN c l (Nat.succ i)
def joinN (sep : List Nat) : List (List Nat) → List Nat
  | [] => []
  | x :: xs => match xs with
    | [] => x
    | _ :: _ => x ++ (sep ++ joinN sep xs)

theorem findN_spec {c : Nat} (hc : c < 256) : ∀ {l : List UInt8} {k : Nat}, (findN c (l.map UInt8.toNat) k = none → Lib.indexByte l (UInt8.ofNat c) = -1) ∧ ∀ i, findN c (l.map UInt8.toNat) k = some i → k ≤ i ∧ Lib.indexByte l (UInt8.ofNat c) = ((i - k : Nat) : Int)
  | [], k => ⟨fun _ => rfl, fun i h => by cases h⟩
  | b :: l, k => by
    obtain ⟨ih1, ih2⟩ := findN_spec hc (l := l) (k := Nat.succ k)
    have hb : (b == UInt8.ofNat c) = Nat.beq b.toNat c := by
      rw [Bool.eq_iff_iff]
      simp only [beq_iff_eq, Nat.beq_eq]
      constructor
      · intro e
        rw [e, UInt8.toNat_ofNat']
        omega
      · intro e; rw [← e]; simp
    simp only [List.map_cons, findN, Lib.indexByte, hb]
    cases hq : Nat.beq b.toNat c with
    | true =>
      simp only [cond_true, if_true]
      refine ⟨(fun h => by cases h), fun i h => ?_⟩
      cases h
      exact ⟨Nat.le_refl _, by simp⟩
    | false =>
      simp only [cond_false, Bool.false_eq_true, if_false]
      refine ⟨fun h => by simp [ih1 h], fun i h => ?_⟩
      obtain ⟨h1, h2⟩ := ih2 i h
      refine ⟨by omega, ?_⟩
      rw [h2]
      have : ¬ (((i - k.succ : Nat) : Int) == -1) = true := by simp
      rw [if_neg this]
      omega

theorem joinN_spec (sp : List UInt8) : ∀ (ls : List (List UInt8)), (Lib.join ls sp).map UInt8.toNat = joinN (sp.map UInt8.toNat) (ls.map fun l => l.map UInt8.toNat)
  | [] => by simp [Lib.join_nil, joinN]
  | [x] => by simp [Lib.join_one, joinN]
  | x :: y :: r => by
    have ih := joinN_spec sp (y :: r)
    rw [Lib.join_cons] at ih ⊢
    simp only [List.map_cons, joinN, Lib.joinTail, List.flatten_cons, List.map_append, List.append_assoc] at ih ⊢
    rw [← ih]

theorem natsS_spec {ρ : Env} : ∀ {r : List AV} {cs : List Value} {xs : List (List Nat)}, RelL ρ r cs → natsS r = some xs → ∃ ss : List ByteArray, cs = ss.map Value.string ∧ ss.map (fun s => s.data.toList.map UInt8.toNat) = xs
  | [], cs, xs, h, e => by
    simp only [RelL] at h
    subst h
    simp only [natsS, Option.some.injEq] at e
    subst e
    exact ⟨[], rfl, rfl⟩
  | a :: r, cs, xs, h, e => by
    simp only [RelL] at h
    obtain ⟨v, vs, rfl, h1, h2⟩ := h
    simp only [natsS] at e
    split at e
    · split at e
      · rename_i s q hq
        simp only [Option.some.injEq] at e
        subst e
        simp only [Rel] at h1
        obtain ⟨u, rfl, hu⟩ := h1
        obtain ⟨ss, e1, e2⟩ := natsS_spec h2 hq
        exact ⟨u :: ss, by simp [e1], by simp [hu, e2]⟩
      · cases e
    · cases e

def sumE (f : Nat) (args : List AV) (H : AHeap) : Option AV :=
  bif Nat.beq f 217 then (match args with
    | [.str s, .int .u8 (.ofNat c)] => bif Nat.ble (Nat.succ c) 256 then (match findN c s 0 with
      | some i => some (.int .i64 (.ofNat i))
      | none => some (.int .i64 (.negSucc 0))) else none
    | _ => none)
  else bif Nat.beq f 67 then (match args with
    | [.sl id off len _ cap es, .str sep] => bif Nat.beq es 1 && Nat.ble len cap && Nat.ble len 1000 then (match PT.get id H with
      | some (.cells _ l) => match takeN len (l.drop off) with
        | some r => match natsS r with
          | some xs => bif Nat.ble (lenN (joinN sep xs)) 1000000 then some (.str (joinN sep xs)) else none
          | none => none
        | none => none
      | _ => none) else none
    | _ => none)
  else none

theorem fn217 : ∃ fn, Tryz.prog.funcs[217]? = some fn ∧ (fn.name == "runtime.NumGoroutine") = false ∧ fn.body.isNone = false := ⟨Tryz.f217, by kernel_rfl, by kernel_rfl, by kernel_rfl⟩
theorem fn67 : ∃ fn, Tryz.prog.funcs[67]? = some fn ∧ (fn.name == "runtime.NumGoroutine") = false ∧ fn.body.isNone = false := ⟨Tryz.f67, by kernel_rfl, by kernel_rfl, by kernel_rfl⟩

theorem keeps_below {w w' : World} (h : Go.RowKit.Below w.heap.size w w') : Keeps w w' := ⟨h.block, h.size, h.os, h.tape, h.output⟩

theorem sumE_ok (n : Array Obj) : SumOK Tryz.prog gs (mkB Tryz.prog gs n) sumE := by
  intro f args H v h
  unfold sumE at h
  cases hf : Nat.beq f 217 with
  | true =>
    rw [hf] at h
    obtain rfl := Nat.eq_of_beq_eq_true hf
    simp only [cond_true] at h
    split at h
    · rename_i s c
      cases hc : Nat.ble (Nat.succ c) 256 with
      | false => rw [hc] at h; cases h
      | true =>
        rw [hc] at h
        rw [Nat.ble_eq] at hc
        simp only [cond_true] at h
        refine ⟨fn217, fun ρ nx w cargs hS _ hr => ?_⟩
        simp only [RelL, Rel] at hr
        obtain ⟨_, _, e1, ⟨u, rfl, hu⟩, _, _, rfl, rfl, rfl⟩ := hr
        obtain rfl : cargs = #[.string u, .int .u8 (Int.ofNat c)] := Array.toList_inj.1 e1
        subst hu
        refine (Any.stringslite_IndexByte lays217 u (Int.ofNat c) w).mono ?_
        rintro e w' ⟨rfl, rfl⟩
        obtain ⟨s1, s2⟩ := findN_spec (c := c) (by omega) (l := u.data.toList) (k := 0)
        have hcc : (Int.ofNat c).toNat.toUInt8 = UInt8.ofNat c := rfl
        refine ⟨_, ρ, rfl, hS, Step.refl _ _ _ _, ?_⟩
        rw [hcc]
        split at h
        · rename_i i hi
          cases h
          obtain ⟨_, q⟩ := s2 i hi
          simp only [Rel, q]
          rfl
        · rename_i hi
          cases h
          simp only [Rel, s1 hi]
          rfl
    · cases h
  | false =>
    rw [hf] at h
    simp only [cond_false] at h
    cases hf2 : Nat.beq f 67 with
    | false => rw [hf2] at h; cases h
    | true =>
      rw [hf2] at h
      obtain rfl := Nat.eq_of_beq_eq_true hf2
      simp only [cond_true] at h
      split at h
      · rename_i id off len ex cap es sep
        cases hck : (Nat.beq es 1 && Nat.ble len cap && Nat.ble len 1000) with
        | false => rw [hck] at h; cases h
        | true =>
          rw [hck] at h
          simp only [Bool.and_eq_true, Nat.ble_eq] at hck
          simp only [cond_true] at h
          split at h
          · rename_i ro l hg
            split at h
            · rename_i r hr
              split at h
              · rename_i xs hx
                cases hl : Nat.ble (lenN (joinN sep xs)) 1000000 with
                | false => rw [hl] at h; cases h
                | true =>
                  rw [hl] at h
                  rw [Nat.ble_eq, lenN_eq] at hl
                  cases h
                  refine ⟨fn67, fun ρ nx w cargs hS _ hra => ?_⟩
                  simp only [RelL, Rel] at hra
                  obtain ⟨_, _, e1, ⟨b, o, m, c, rid, hcap, _, _, rfl⟩, _, _, rfl, ⟨u, rfl, hu⟩, rfl⟩ := hra
                  obtain rfl : cargs = #[.slice (some ⟨b, o + off, none⟩) len c, .string u] := Array.toList_inj.1 e1
                  obtain ⟨cs, hcl, hcr, hcells⟩ := hS.load hg rid hr
                  obtain ⟨ss, e2, e3⟩ := natsS_spec hcr hx
                  have hsl : ss.length = len := by rw [← hcl, e2]; simp
                  have hb : b < w.heap.size := hS.blk_lt hg rid
                  have hj : (Lib.join (ss.map (·.data.toList)) u.data.toList).map UInt8.toNat = joinN sep xs := by
                    rw [joinN_spec, hu, List.map_map]
                    exact congrArg (joinN sep) e3
                  have hlen : (Lib.join (ss.map (·.data.toList)) u.data.toList).length ≤ 140737488355328 := by
                    have := congrArg List.length hj
                    simp only [List.length_map] at this
                    omega
                  have hcall := Any.strings_Join lays156 builderX b (o + off) c ss u w (fun j x hx => by
                    have : cs[j]? = some (.string x) := by rw [e2]; simp [hx]
                    have h3 := hcells j _ this
                    have h4 : (⟨b, o + off, none⟩ : Addr).add j = ⟨b, o + off + j, none⟩ := by
                      unfold Addr.add
                      split
                      · rename_i h0; subst h0; rfl
                      · rfl
                    rwa [h4] at h3) hb (by omega) (by omega) hlen
                  rw [hsl] at hcall
                  refine hcall.mono ?_
                  rintro e w' ⟨rfl, hbl⟩
                  have hk := keeps_below hbl
                  refine ⟨_, ρ, rfl, hS.keep hk.heap hk.size, hk.step _ _ _, ?_⟩
                  simp only [Rel]
                  exact ⟨_, rfl, by simpa using hj⟩
              · cases h
            · cases h
          · cases h
      · cases h
end Go.Proofs.TG
