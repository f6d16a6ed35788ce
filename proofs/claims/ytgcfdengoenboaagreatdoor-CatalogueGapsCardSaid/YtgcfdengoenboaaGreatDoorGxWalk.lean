/- CatalogueGaps: the way up to behind the call of Recipe; then the interpreter. -/
import Derived.Test.YtgcfdengoenboaaGreatDoorGxRecipe
import Derived.Test.YtgcfdengoenboaaGreatDoorGxShal
namespace Go.Proofs.TG
open Go Go.Abs Go.Proofs

noncomputable def b4 : Code := Tryz.f3.body.getD .skip
noncomputable def A4 : Code := seqL b4
noncomputable def B4 : Code := seqL (seqR b4)
noncomputable def C4 : Code := seqL (seqR (seqR b4))
noncomputable def R4 : Code := seqR (seqR (seqR b4))
noncomputable def O4 : Array Oper := regOps C4
noncomputable def N4 : Nat := Tryz.f3.ntmps
def aA : AC := aseqL c3.body
def aB : AC := aseqL (aseqR c3.body)
def aC : List AOper := aregOps (aseqL (aseqR (aseqR c3.body)))
def aR : AC := aseqR (aseqR (aseqR c3.body))

set_option maxRecDepth 1000000
theorem hb4 : Tryz.f3.body = some (.seq A4 (.seq B4 (.seq (.region (regId C4) O4 false) R4))) := by kernel_rfl
theorem ccA : cc Tryz.prog gs N4 A4 = some aA := by kernel_rfl
theorem ccB : cc Tryz.prog gs N4 B4 = some aB := by kernel_rfl
theorem ccR : cc Tryz.prog gs N4 R4 = some aR := by kernel_rfl
theorem coC1 : copers Tryz.prog gs N4 O4 (O4.toList.take 3) = some (aC.take 3) := by kernel_rfl
theorem coC2 : copers Tryz.prog gs N4 O4 (O4.toList.drop 4) = some (aC.drop 4) := by kernel_rfl
theorem sz4 : O4.size = 6 := by kernel_rfl
theorem co3 : (O4[3]?).bind (coper Tryz.prog gs N4 O4) = some ⟨some (Pos.ofNat 19), none, .call (.c (.fn (.func 5) [] [])) [.t (Pos.ofNat 16), .t (Pos.ofNat 17), .t (Pos.ofNat 18)]⟩ := by kernel_rfl
def calls14 (o : Oper) : Bool := match o.op with
  | .call c => match c.callee, c.args.toList with
    | .value (.func f), [.tmp a, .tmp b, .tmp d] => Nat.beq f 5 && Nat.beq a 16 && Nat.beq b 17 && Nat.beq d 18
    | _, _ => false
  | _ => false
theorem cl3 : (O4[3]?).map calls14 = some true := by kernel_rfl
theorem res4 : Tryz.f3.results.toList.mapM (cres Tryz.prog) = some c3.res := by kernel_rfl
theorem fn4 : Tryz.prog.funcs[3]? = some Tryz.f3 := by kernel_rfl
theorem fn14 : ∃ fn, Tryz.prog.funcs[5]? = some fn ∧ (fn.name == "runtime.NumGoroutine") = false ∧ fn.body.isNone = false := ⟨Tryz.f5, by kernel_rfl, by kernel_rfl, by kernel_rfl⟩

def T0 (k c s : Int) : PT AV := bindT [.int .u8 k, .int .u8 c, .int .u8 s] 0 .lf
def T1 (k c s : Int) : PT AV := PT.put (Pos.ofNat 6) (some (.bool false)) (T0 k c s)
def T2 (k c s : Int) : PT AV := PT.put (Pos.ofNat 15) (some (.bool false)) (PT.put (Pos.ofNat 14) (some (.bool true)) (T1 k c s))
def T3 (k c s : Int) : PT AV := PT.put (Pos.ofNat 18) (some (.int .u8 s)) (PT.put (Pos.ofNat 17) (some (.int .u8 c)) (PT.put (Pos.ofNat 16) (some (.int .u8 k)) (T2 k c s)))

theorem runA : (fun k c s => exec fns sumK 20 aA none ⟨T0 k c s, [], H0, n0⟩) = fun k c s => some (.normal, ⟨T1 k c s, [], H0, n0⟩) := by kernel_rfl
theorem runB : (fun k c s => exec fns sumK 20 aB none ⟨T1 k c s, [], H0, n0⟩) = fun k c s => some (.normal, ⟨T2 k c s, [], H0, n0⟩) := by kernel_rfl
theorem runC : (fun k c s => seqA (callA fns sumK (exec fns sumK 20)) (yieldA (exec fns sumK 20)) (aC.take 3) (T2 k c s) H0 n0) = fun k c s => some (T3 k c s, H0, n0) := by kernel_rfl

def recipeA (k c s : Nat) : AV := .agg [.int .i64 (.ofNat k), .int .i64 (.ofNat c), .int .i64 (.ofNat s)]
noncomputable def endK (x : AEx) (T : PT AV) (D : List Pos) (H : AHeap) (nx : Pos) : Bool :=
  @AEx.rec (fun _ => Bool) (optK (endFn c3 ⟨T, D, H, nx⟩) fun q => isT q.1 q.2.1 q.2.2) (fun _ => false) (optK (endFn c3 ⟨T, D, H, nx⟩) fun q => isT q.1 q.2.1 q.2.2) x
noncomputable def restF (K C S : Nat) (k c s : Int) : Bool :=
  seqK (callM fns sumK shA (execM fns sumK shA 1000000)) (yieldX (execM fns sumK shA 1000000)) (aC.drop 4) (PT.put (Pos.ofNat 19) (some (recipeA K C S)) (T3 k c s)) H0 n0 (fun T H nx => execM fns sumK shA 1000000 aR none T [] H nx endK)
end Go.Proofs.TG
