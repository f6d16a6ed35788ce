/- The abstract interpreter, part J: loads, new blocks, stores: what they give, and that this is so. -/
import Derived.Test.YteofddgoedkhcaaGreatDoorAbsI
namespace Go.Abs

/-! ### Reading memory -/
/-- Bytes, as numbers. -/
def bytesOf : List AV → Option (List Nat)
  | [] => some []
  | .int .u8 (.ofNat b) :: l => if b < 256 then match bytesOf l with
    | some r => some (b :: r)
    | none => none
    else none
  | _ => none

def ldA (e : AX → AV) (H : AHeap) (op : AOp) : Option AV :=
  match op with
  | .load ag n a => match e a with
    | .ptr id off => match PT.get id H with
      | some (.cells _ l) => match ag with
        | true => match takeN n (l.drop off) with
          | some r => some (.agg r)
          | none => none
        | false => nthL off l
      | _ => none
    | _ => none
  | .slA len s x lo hi => match e x with
    | .ptr id off => match PT.get id H with
      | some (.cells _ c) =>
        if off + len * s ≤ lenL c then
          match bnd (lo.map e) 0, bnd (hi.map e) len with
          | some l, some h =>
            if l ≤ h ∧ h ≤ len then
              if l < len then frcN (off + l * s) fun o => frcN (h - l) fun n => frcN (len - l) fun c => some (.sl id o n true c s)
              else some (.sl id off 0 true 0 s)
            else none
          | _, _ => none
        else none
      | _ => none
    | _ => none
  | .b2s x => match e x with
    | .nilsl => some (.str [])
    | .sl id off len _ _ es => if es = 1 then match PT.get id H with
      | some (.cells _ l) => match takeN len (l.drop off) with
        | some r => match bytesOf r with
          | some s => some (.str s)
          | none => none
        | none => none
      | _ => none
      else none
    | _ => none
  | _ => none

/-! ### New blocks -/
def resA (nx : Pos) : Option (Nat × Bool × Nat × Nat) → AV
  | none => .ptr nx 0
  | some (len, ex, cap, es) => .sl nx 0 len ex cap es

def repL (z : List AV) : Nat → List AV
  | 0 => []
  | n + 1 => z ++ repL z n

def alA (e : AX → AV) (op : AOp) : Option (List AV × Option (Nat × Bool × Nat × Nat)) :=
  match op with
  | .new z => some (z, none)
  | .box x => match (e x).flat with
    | true => some ((e x).cells, none)
    | false => none
  | .mksl z len es ps => match fillA e ps z with
    | some l => some (l, some (len, true, len, es))
    | none => none
  | .s2b x => match e x with
    | .str l => some (l.map fun b => .int .u8 (.ofNat b), some (lenN l, false, lenN l, 1))
    | _ => none
  | _ => none

section
variable {P : Program} {ρ : Env} {gs : List Nat} {e : AX → AV} {η : Operand → Value} {B : Base} {H : AHeap} {w : World}

/-- The shapes of what 'cop' makes. -/
def AOp.tag : AOp → Nat
  | .mov _ => 0
  | .pick _ _ _ => 1
  | .new _ => 2
  | .box _ => 3
  | .build _ _ => 4
  | .mksl _ _ _ _ => 5
  | .load _ _ _ => 6
  | .store _ _ _ => 7
  | .nilchk _ => 8
  | .bin _ _ _ _ _ => 9
  | .un _ _ => 10
  | .cvi _ _ => 11
  | .cvs _ => 12
  | .s2b _ => 13
  | .b2s _ => 14
  | .mkif _ _ => 15
  | .mkfn _ _ _ => 16
  | .slS _ _ _ _ => 17
  | .slStr _ _ _ => 18
  | .slA _ _ _ _ _ => 19
  | .fadr _ _ => 20
  | .fld _ _ _ _ => 21
  | .ixS _ _ _ => 22
  | .ixA _ _ _ _ => 23
  | .ixv _ _ _ _ _ => 24
  | .ixstr _ _ => 25
  | .extr _ _ => 26
  | .call _ _ => 27
  | .len _ _ => 28
  | .cap _ => 29
  | .app _ _ _ _ => 30
  | .copy _ _ _ _ => 31
  | .mksz _ _ _ _ _ => 32
  | .bad => 33

def Op.tags : Op → List Nat
  | .move _ => [0]
  | .assign _ => [0]
  | .pick _ _ _ => [1]
  | .alloc _ => [2]
  | .box _ _ => [3]
  | .build _ _ => [4]
  | .buildSlice _ _ _ => [5]
  | .load _ _ => [6]
  | .store _ _ _ => [7]
  | .nilCheck _ => [8]
  | .binOp _ _ _ _ _ => [9]
  | .unOp _ _ _ => [10]
  | .convert _ _ _ => [11, 12, 13, 14]
  | .makeInterface _ _ => [15]
  | .makeFunc _ _ _ => [16]
  | .slice _ _ _ _ _ => [17, 18, 19]
  | .fieldAddr _ _ _ => [20]
  | .field _ _ _ => [21]
  | .indexAddr _ _ _ => [22, 23]
  | .index _ _ _ => [24, 25]
  | .extract _ _ => [26]
  | .call _ => [27, 28, 29, 30, 31]
  | .makeSlice _ _ _ => [32]
  | .panic _ => [33]
  | _ => []

theorem cop_tag {o : Oper} {ao : AOp} (hc : cop P gs o = some ao) : ao.tag ∈ Op.tags o.op := by
  unfold cop at hc
  split at hc
  all_goals first
    | (cases hc; done)
    | skip
  all_goals rename_i ho
  all_goals rw [ho]
  all_goals simp only [Op.tags]
  all_goals try unfold cbuild at hc
  all_goals try unfold cmksl at hc
  all_goals try unfold cconv at hc
  all_goals try unfold cslice at hc
  all_goals try unfold cixaddr at hc
  all_goals try unfold cindex at hc
  all_goals try unfold ccall at hc
  all_goals repeat' split at hc
  all_goals first
    | (cases hc; done)
    | (simp only [Option.map_eq_some_iff] at hc; obtain ⟨_, _, rfl⟩ := hc; simp [AOp.tag]; done)
    | (obtain ⟨_, _, _, _, rfl⟩ := m2_some hc; simp [AOp.tag]; done)
    | (obtain ⟨_, _, _, _, _, _, rfl⟩ := m3_some hc; simp [AOp.tag]; done)
    | (simp only [Option.some.injEq] at hc; subst hc; simp [AOp.tag]; done)

theorem cop_load {o : Oper} {ag : Bool} {n : Nat} {ax : AX} (hc : cop P gs o = some (.load ag n ax)) : ∃ t x, o.op = .load t x ∧ agOf P t = some ag ∧ szOf P t = some n ∧ cox gs x = some ax := by
  have ht := cop_tag hc
  cases ho : o.op <;> rw [ho] at ht <;> simp [Op.tags, AOp.tag] at ht
  rename_i t x
  simp only [cop, ho] at hc
  split at hc
  · rename_i h1 h2 h3
    simp at hc
    obtain ⟨rfl, rfl, rfl⟩ := hc
    exact ⟨t, x, rfl, h1, h2, h3⟩
  · cases hc

theorem cop_slA {o : Oper} {n s : Nat} {ax : AX} {al ah : Option AX} (hc : cop P gs o = some (.slA n s ax al ah)) :
    ∃ t x lo hi el, o.op = .slice t x lo hi none ∧ P.underlying t = some (.array n el) ∧ szOf P el = some s ∧ cox gs x = some ax ∧ coxo gs lo = some al ∧ coxo gs hi = some ah := by
  have ht := cop_tag hc
  cases ho : o.op <;> rw [ho] at ht <;> simp [Op.tags, AOp.tag] at ht
  rename_i t x lo hi mx
  simp only [cop, ho] at hc
  unfold cslice at hc
  split at hc
  · rename_i h1 h2 h3
    split at hc
    · rename_i hu
      simp only [Option.map_eq_some_iff] at hc
      obtain ⟨s', hs, hq⟩ := hc
      cases hq
      exact ⟨t, x, lo, hi, _, rfl, hu, hs, h1, h2, h3⟩
    · cases hc
    · simp only [Option.map_eq_some_iff] at hc
      obtain ⟨s', hs, hq⟩ := hc
      cases hq
    · cases hc
  · cases hc

theorem cop_b2s {o : Oper} {ax : AX} (hc : cop P gs o = some (.b2s ax)) : ∃ s d x el, o.op = .convert s d x ∧ P.underlying s = some (.slice el) ∧ P.underlying d = some .string ∧ P.underlying el = some (.int .u8) ∧ cox gs x = some ax := by
  have ht := cop_tag hc
  cases ho : o.op <;> rw [ho] at ht <;> simp [Op.tags, AOp.tag] at ht
  rename_i s d x
  simp only [cop, ho] at hc
  unfold cconv at hc
  split at hc
  · simp only [Option.map_eq_some_iff] at hc
    obtain ⟨_, _, hq⟩ := hc
    cases hq
  · simp only [Option.map_eq_some_iff] at hc
    obtain ⟨_, _, hq⟩ := hc
    cases hq
  · split at hc
    · simp only [Option.map_eq_some_iff] at hc
      obtain ⟨_, _, hq⟩ := hc
      cases hq
    · cases hc
  · rename_i el hs hd
    split at hc
    · rename_i hel
      simp only [Option.map_eq_some_iff] at hc
      obtain ⟨_, hx, hq⟩ := hc
      cases hq
      refine ⟨s, d, x, el, rfl, hs, hd, ?_, hx⟩
      unfold isU8 at hel
      split at hel
      · assumption
      · cases hel
    · cases hc
  · cases hc

theorem bytesOf_spec : ∀ {l : List AV} {s : List Nat} {cs : List Value}, bytesOf l = some s → RelL ρ l cs → cs = (s.map (Int.ofNat ·)).map (Value.int .u8) ∧ ∀ b ∈ s, b < 256
  | [], s, cs, h, r => by
    simp [bytesOf] at h; subst h
    simp only [RelL] at r; subst r
    simp
  | a :: l, s, cs, h, r => by
    unfold bytesOf at h
    split at h
    · rename_i heq; cases heq
    · rename_i b l' heq
      cases heq
      split at h
      · rename_i hb
        split at h
        · rename_i r' hr'
          simp at h; subst h
          simp only [RelL, Rel] at r
          obtain ⟨v, vs, rfl, rfl, r⟩ := r
          obtain ⟨rfl, h2⟩ := bytesOf_spec hr' r
          refine ⟨by simp, fun x hx => ?_⟩
          rcases List.mem_cons.1 hx with rfl | hx
          · exact hb
          · exact h2 x hx
        · cases h
      · cases h
    · cases h

theorem foldl_push : ∀ (s : List Nat) (r : ByteArray), (∀ b ∈ s, b < 256) → ((s.map (Int.ofNat ·)).foldl (fun r n => r.push (UInt8.ofNat n.toNat)) r).data.toList.map UInt8.toNat = r.data.toList.map UInt8.toNat ++ s
  | [], r, _ => by simp
  | b :: s, r, h => by
    simp only [List.map_cons, List.foldl_cons]
    rw [foldl_push s _ (fun x hx => h x (by simp [hx]))]
    have hb := h b (by simp)
    have : (r.push (UInt8.ofNat (Int.ofNat b).toNat)).data.toList.map UInt8.toNat = r.data.toList.map UInt8.toNat ++ [b] := by
      simp [ByteArray.push]
      omega
    rw [this]; simp

theorem addr_add (b o n : Nat) : (⟨b, o, none⟩ : Addr).add n = ⟨b, o + n, none⟩ := Addr.add_lit b o n

theorem lift_value {s : Sem Value} {v' : Value} {w w' : World} (h : s.run P w = .ok v' w') : (do pure (.value (← s)) : Sem Next).run P w = .ok (.value v') w' := by simp [h]

theorem ld_sound {o : Oper} {ao : AOp} {v : AV} (hS : Sim B ρ H w) (hE : Evs gs ρ e η) (hc : cop P gs o = some ao) (hp : ldA e H ao = some v) :
    ∃ v', (execOp η o).run P w = .ok (.value v') w ∧ Rel ρ v v' := by
  unfold ldA at hp
  split at hp
  · -- load
    rename_i ag n a
    obtain ⟨t, x, ho, h1, h2, h3⟩ := cop_load hc
    have rx := hE _ _ h3
    split at hp
    · rename_i id off hex
      rw [hex] at rx
      simp only [Rel] at rx
      obtain ⟨b, o', m, r1, r2⟩ := rx
      split at hp
      · rename_i ro l hg
        split at hp
        · split at hp
          · rename_i r hr
            simp at hp; subst hp
            obtain ⟨cs, c1, c2, c3⟩ := hS.load hg r1 hr
            refine ⟨.agg cs.toArray, ?_, by simp only [Rel]; exact ⟨_, rfl, by simpa using c2⟩⟩
            simp only [execOp, ho]
            refine lift_value ?_
            have := run_loadCells_list (P := P) w ⟨b, o' + off, none⟩ cs c3
            rw [c1] at this
            simp [Instr.loadAt, r2, Instr.sureAddr, loadVar, run_isAgg w h1, run_sizeOf w h2, this]
          · cases hp
        · rw [nthL_eq] at hp
          obtain ⟨b', o2, m', e1, _, _, e4, _⟩ := hS.cells _ _ _ hg
          rw [r1] at e1; cases e1
          obtain ⟨c, hc', hr⟩ := e4 _ _ hp
          refine ⟨c, ?_, hr⟩
          simp only [execOp, ho]
          refine lift_value ?_
          simp [Instr.loadAt, r2, Instr.sureAddr, loadVar, run_isAgg w h1, hc']
      · cases hp
    · cases hp
  · -- slA
    rename_i len s ax al ah
    obtain ⟨t, x, lo, hi, el, ho, hu, hs, h1, h2, h3⟩ := cop_slA hc
    have rx := hE _ _ h1
    split at hp
    · rename_i id off hex
      rw [hex] at rx
      simp only [Rel] at rx
      obtain ⟨b, o', m, r1, r2⟩ := rx
      split at hp
      · rename_i ro l hg
        obtain ⟨b', o2, m', e1, _, _, _, e5, _⟩ := hS.cells _ _ _ hg
        rw [r1] at e1; cases e1
        split at hp
        · rename_i hroom
          rw [lenL_eq] at hroom
          split at hp
          · rename_i lb hb b1 b2
            split at hp
            · rename_i hle
              have hsb := sliceBounds_run (P := P) (cap := len) hE h2 h3 b1 b2 hle.1 hle.2 false w
              have key : (Instr.sliceAt t (η x) (lo.map η) (hi.map η) none).run P w = .ok (.slice (some (if len = lb then ⟨b, o' + off, none⟩ else ⟨b, o' + off + lb * s, none⟩)) (hb - lb) (len - lb)) w := by
                simp [Instr.sliceAt, run_underlying hu, r2, Instr.sureAddr, hsb, run_sizeOf w hs, addr_add]
              split at hp
              · rename_i hlt
                rw [frcN_eq, frcN_eq, frcN_eq] at hp
                simp at hp; subst hp
                refine ⟨_, by simp only [execOp, ho]; exact lift_value key, ?_⟩
                rw [if_neg (by omega)]
                simp only [Rel]
                refine ⟨b, o', m, len - lb, r1, Nat.le_refl _, fun _ => rfl, ?_, by rw [Nat.add_assoc]⟩
                have : lb * s + (len - lb) * s = len * s := by rw [← Nat.add_mul]; congr 1; omega
                omega
              · simp at hp; subst hp
                refine ⟨_, by simp only [execOp, ho]; exact lift_value key, ?_⟩
                rw [if_pos (by omega)]
                simp only [Rel]
                refine ⟨b, o', m, 0, r1, Nat.le_refl _, fun _ => rfl, by omega, ?_⟩
                rw [show hb - lb = 0 by omega, show len - lb = 0 by omega]
            · cases hp
          · cases hp
        · cases hp
      · cases hp
    · cases hp
  · -- b2s
    rename_i ax
    obtain ⟨src, dst, x, el, ho, hs, hd, he, hx⟩ := cop_b2s hc
    have rx := hE _ _ hx
    split at hp
    · rename_i hex
      simp at hp; subst hp
      rw [hex] at rx
      simp only [Rel] at rx
      refine ⟨.string .empty, ?_, by simp only [Rel]; exact ⟨_, rfl, rfl⟩⟩
      simp only [execOp, ho]
      refine lift_value ?_
      rw [rx, run_convert_bytes_string w src dst el _ _ _ hs he hd]
      simp [Conv.bytesToString]
    · rename_i id off len ex cap es hex
      rw [hex] at rx
      simp only [Rel] at rx
      obtain ⟨b, o', m, c, r1, r2, r3, r4, r5⟩ := rx
      split at hp
      · split at hp
        · rename_i ro l hg
          split at hp
          · rename_i r hr
            split at hp
            · rename_i s hsb
              simp at hp; subst hp
              obtain ⟨cs, c1, c2, c3⟩ := hS.load hg r1 hr
              obtain ⟨rfl, hlt⟩ := bytesOf_spec hsb c2
              have hl := run_loadCells_list (P := P) w ⟨b, o' + off, none⟩ _ c3
              rw [c1] at hl
              refine ⟨.string ((s.map (Int.ofNat ·)).foldl (fun r n => r.push (UInt8.ofNat n.toNat)) ByteArray.empty), ?_, ?_⟩
              · simp only [execOp, ho]
                refine lift_value ?_
                rw [r5, run_convert_bytes_string w src dst el _ _ _ hs he hd]
                exact run_bytesToString w _ _ _ _ hl
              · simp only [Rel]
                refine ⟨_, rfl, ?_⟩
                rw [foldl_push s _ hlt]; simp
            · cases hp
          · cases hp
        · cases hp
      · cases hp
    · cases hp
  · cases hp

theorem fillA_length : ∀ (ps : List (Nat × Nat × AX)) (z z' : List AV), fillA e ps z = some z' → z'.length = z.length
  | [], z, z', h => by simp [fillA] at h; rw [h]
  | (off, n, x) :: ps, z, z', h => by
    simp only [fillA] at h
    split at h
    · split at h
      · split at h
        · rename_i z1 hz
          rw [fillA_length ps z1 z' h, (putL_spec hz).1]
        · cases h
      · cases h
    · cases h

theorem ofVals_length : ∀ (vs : List Value) (l : List AV), ofVals vs = some l → l.length = vs.length
  | [], l, h => by simp [ofVals] at h; rw [h]; rfl
  | v :: vs, l, h => by
    simp only [ofVals] at h
    split at h
    · rename_i a m h1 h2
      simp at h; subst h
      simp [ofVals_length vs m h2]
    · cases h

theorem cop_new {o : Oper} {z : List AV} (hc : cop P gs o = some (.new z)) : ∃ t, o.op = .alloc t ∧ zeroOf P t = some z := by
  have ht := cop_tag hc
  cases ho : o.op <;> rw [ho] at ht <;> simp [Op.tags, AOp.tag] at ht
  rename_i t
  simp only [cop, ho, Option.map_eq_some_iff] at hc
  obtain ⟨z', hz, hq⟩ := hc
  cases hq
  exact ⟨t, rfl, hz⟩

theorem cop_box {o : Oper} {ax : AX} (hc : cop P gs o = some (.box ax)) : ∃ t x, o.op = .box t x ∧ cox gs x = some ax := by
  have ht := cop_tag hc
  cases ho : o.op <;> rw [ho] at ht <;> simp [Op.tags, AOp.tag] at ht
  rename_i t x
  simp only [cop, ho, Option.map_eq_some_iff] at hc
  obtain ⟨z', hz, hq⟩ := hc
  cases hq
  exact ⟨t, x, rfl, hz⟩

theorem cop_s2b {o : Oper} {ax : AX} (hc : cop P gs o = some (.s2b ax)) : ∃ s d x el, o.op = .convert s d x ∧ P.underlying s = some .string ∧ P.underlying d = some (.slice el) ∧ P.underlying el = some (.int .u8) ∧ cox gs x = some ax := by
  have ht := cop_tag hc
  cases ho : o.op <;> rw [ho] at ht <;> simp [Op.tags, AOp.tag] at ht
  rename_i s d x
  simp only [cop, ho] at hc
  unfold cconv at hc
  split at hc
  · simp only [Option.map_eq_some_iff] at hc
    obtain ⟨_, _, hq⟩ := hc
    cases hq
  · simp only [Option.map_eq_some_iff] at hc
    obtain ⟨_, _, hq⟩ := hc
    cases hq
  · rename_i el hs hd
    split at hc
    · rename_i hel
      simp only [Option.map_eq_some_iff] at hc
      obtain ⟨_, hx, hq⟩ := hc
      cases hq
      refine ⟨s, d, x, el, rfl, hs, hd, ?_, hx⟩
      unfold isU8 at hel
      split at hel
      · assumption
      · cases hel
    · cases hc
  · split at hc
    · simp only [Option.map_eq_some_iff] at hc
      obtain ⟨_, _, hq⟩ := hc
      cases hq
    · cases hc
  · cases hc

theorem cop_mksl {o : Oper} {z : List AV} {len es : Nat} {ps : List (Nat × Nat × AX)} (hc : cop P gs o = some (.mksl z len es ps)) :
    ∃ t el parts zv, o.op = .buildSlice t len parts ∧ P.underlying t = some (.slice el) ∧ szOf P el = some es ∧ (P.info? el).bind (·.zero) = some zv ∧ len * es ≤ 2 ^ 24 ∧ 0 < len * es ∧
      ofVals (((Array.range (len * es)).map (zv.cells[· % zv.cells.size]!)).toList) = some z ∧ cparts gs (fun i => some (i * es, es)) parts.toList = some ps := by
  have ht := cop_tag hc
  cases ho : o.op <;> rw [ho] at ht <;> simp [Op.tags, AOp.tag] at ht
  rename_i t len' parts
  simp only [cop, ho] at hc
  unfold cmksl at hc
  split at hc
  · rename_i el hu
    split at hc
    · rename_i size zv hs hz
      split at hc
      · rename_i hle
        split at hc
        · rename_i z' ps' hz' hps
          simp at hc
          obtain ⟨rfl, rfl, rfl, rfl⟩ := hc
          exact ⟨t, el, parts, zv, rfl, hu, hs, hz, hle.1, hle.2, hz', hps⟩
        · cases hc
      · cases hc
    · cases hc
  · cases hc

/-- A new block. -/
theorem al_sound {o : Oper} {ao : AOp} {l : List AV} {r : Option (Nat × Bool × Nat × Nat)} {nx : Pos} (hS : Sim B ρ H w) (hn : ρ nx = none) (hE : Evs gs ρ e η) (hc : cop P gs o = some ao) (hp : alA e ao = some (l, r)) :
    ∃ v' w' m, (execOp η o).run P w = .ok (.value v') w' ∧ Sim B (ρ.set nx (w.heap.size, 0, m)) (PT.put nx (some (.cells false l)) H) w' ∧
      Step ρ H nx w (ρ.set nx (w.heap.size, 0, m)) (PT.put nx (some (.cells false l)) H) nx.succ w' ∧ Rel (ρ.set nx (w.heap.size, 0, m)) (resA nx r) v' := by
  unfold alA at hp
  split at hp
  · rename_i z
    simp at hp
    obtain ⟨rfl, rfl⟩ := hp
    obtain ⟨t, ho, hz⟩ := cop_new hc
    obtain ⟨zv, hzv, hzr⟩ := run_zeroValue (P := P) (ρ := ρ) hz
    refine ⟨.pointer (some ⟨w.heap.size, 0, none⟩), w.alloc (.cells zv.cells t), (zv.cells.toList ++ []).length, ?_, ?_, Step.alloc hn _ _ _, ?_⟩
    · simp only [execOp, ho]
      refine lift_value ?_
      simp [Instr.alloc, hzv, newVar, newRow]
    · have := hS.alloc hn hzr t []
      simpa using this
    · simp only [resA, Rel]
      exact ⟨_, _, _, Env.set_same _ _ _, rfl⟩
  · rename_i x
    split at hp
    · rename_i hfl
      simp at hp
      obtain ⟨rfl, rfl⟩ := hp
      obtain ⟨t, x', ho, hx⟩ := cop_box hc
      have hr := (hE _ _ hx).cells hfl
      refine ⟨.pointer (some ⟨w.heap.size, 0, none⟩), w.alloc (.cells (η x').cells t), ((η x').cells.toList ++ []).length, ?_, ?_, Step.alloc hn _ _ _, ?_⟩
      · simp only [execOp, ho]
        refine lift_value ?_
        simp [Instr.box, newVar, newRow]
      · have := hS.alloc hn hr t []
        simpa using this
      · simp only [resA, Rel]
        exact ⟨_, _, _, Env.set_same _ _ _, rfl⟩
    · cases hp
  · rename_i z len es ps
    split at hp
    · rename_i l' hl
      simp at hp
      obtain ⟨rfl, rfl⟩ := hp
      obtain ⟨t, el, parts, zv, ho, hu, hs, hz, hle, hpos, hz', hps⟩ := cop_mksl hc
      obtain ⟨i, hi, hzero⟩ := Option.bind_eq_some_iff.1 hz
      obtain ⟨cs', hf, hr⟩ := fillA_sound hE _ _ _ _ _ ((Array.range (len * es)).map (zv.cells[· % zv.cells.size]!)) hps hl (ofVals_rel hz')
      refine ⟨.slice (some ⟨w.heap.size, 0, none⟩) len len, w.alloc (.cells cs' el), (cs'.toList ++ []).length, ?_, ?_, Step.alloc hn _ _ _, ?_⟩
      · simp only [execOp, ho]
        refine lift_value ?_
        have hne : ¬ (len * es = 0) := by omega
        have hbig : ¬ (16777216 < len * es) := by omega
        simp only [Instr.buildSlice, Sem.run_bind, run_underlying hu, Result.andThen_ok, run_sizeOf w hs]
        simp [hne, hbig, zeroValue, typeInfo, hi, hzero]
        simp at hf
        rw [hf]
        simp [newRow]
      · have := hS.alloc hn hr el []
        simpa using this
      · simp only [resA, Rel]
        refine ⟨_, _, _, len, Env.set_same _ _ _, Nat.le_refl _, fun _ => rfl, ?_, by simp⟩
        have h1 := hr.length
        have h2 := fillA_length _ _ _ hl
        have h3 := ofVals_length _ _ hz'
        simp at h3
        simp; simp at h1; omega
    · cases hp
  · rename_i x
    split at hp
    · rename_i s hex
      simp at hp
      obtain ⟨rfl, rfl⟩ := hp
      obtain ⟨src, dst, x', el, ho, hs, hd, he, hx⟩ := cop_s2b hc
      have rx := hE _ _ hx
      rw [hex] at rx
      simp only [Rel] at rx
      obtain ⟨u, hu, hb⟩ := rx
      have hrun := run_bytes_of_string (P := P) w src dst el u hs hd he
      have hcap := grownCap_ge w u.size 0 el
      have hsz := str_size hb
      have hrow : bytesRow u (grownCap w u.size 0 el) = ((u.data.toList.map fun b : UInt8 => Value.int .u8 (b.toNat : Int)) ++ List.replicate (grownCap w u.size 0 el - u.size) (Value.int .u8 0)).toArray := by
        apply Array.ext'
        simp [bytesRow]
      rw [hrow] at hrun
      have hlen : ((u.data.toList.map fun b : UInt8 => Value.int .u8 (b.toNat : Int)) ++ List.replicate (grownCap w u.size 0 el - u.size) (Value.int .u8 0)).length = grownCap w u.size 0 el := by
        simp; omega
      have hrel : RelL ρ (s.map fun b => AV.int .u8 (.ofNat b)) (u.data.toList.map fun b : UInt8 => Value.int .u8 (b.toNat : Int)) := by
        subst hb
        refine RelL.of_get (by simp) fun i a v ha hv => ?_
        simp at ha hv
        obtain ⟨x1, h1, rfl⟩ := ha
        obtain ⟨x2, h2, rfl⟩ := hv
        rw [h1] at h2; cases h2
        simp [Rel]
      refine ⟨_, _, _, by simp only [execOp, ho, hu]; exact lift_value hrun, hS.drew.alloc hn hrel el _ _ ?_, (Step.alloc (w := w.drew) hn _ _ _).of_drew, ?_⟩
      · intro i hi
        simp at hi ⊢
        omega
      · simp only [resA, Rel]
        refine ⟨_, _, _, grownCap w u.size 0 el, Env.set_same _ _ _, by rw [lenN_eq]; omega, by simp, ?_, by simp [lenN_eq, hsz]⟩
        rw [hlen]; omega
    · cases hp
  · cases hp
end
end Go.Abs
