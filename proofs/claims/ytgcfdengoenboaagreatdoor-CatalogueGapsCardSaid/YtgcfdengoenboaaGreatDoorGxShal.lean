/- Printed by a program (wip/tools/shallow.py): functions by parts. -/
import Derived.Test.YtgcfdengoenboaaGreatDoorGxShal1
import Derived.Test.YtgcfdengoenboaaGreatDoorGxKnown
import Derived.Test.YtgcfdengoenboaaGreatDoorShD
namespace Go.Proofs.TG
open Go Go.Abs
set_option maxRecDepth 100000
abbrev S1 (f : Nat) (c : CallK → CallK) : Prop := ∀ dyn, CallE fns sumK dyn → CallE1 fns sumK f (c dyn)
theorem hn (f : Nat) (h : (fun a H => sumK f a H) = fun _ _ => none) (a : List AV) (H : AHeap) : sumK f a H = none := congrFun (congrFun h a) H
theorem kn : ∀ q ∈ ([] : List (Nat × CallK)), CallE1 fns sumK q.1 q.2 := ck_nil fns sumK
theorem kc {f : Nat} {c : CallK} {l : List (Nat × CallK)} (h : CallE1 fns sumK f c) (hl : ∀ q ∈ l, CallE1 fns sumK q.1 q.2) : ∀ q ∈ ((f, c) :: l), CallE1 fns sumK q.1 q.2 := ck_cons fns sumK h hl
theorem shL_ok {f : Nat} {c : CallK → CallK} (h : S1 f c) : ShOK fns sumK (shL f c) := fun dyn _ hd ho _ _ _ _ _ h2 => sh_leaf fns sumK (h dyn hd) ho h2
theorem shN_ok {m : Nat} {A B : CallK → CallK → CallK} (hA : ShOK fns sumK A) (hB : ShOK fns sumK B) : ShOK fns sumK (shN m A B) := fun dyn old hd ho g args H nx k h => sh_node (b := Nat.ble g m) h (fun h => hA dyn old hd ho g args H nx k h) (fun h => hB dyn old hd ho g args H nx k h)
theorem s13 : S1 13 (fun dyn => ar1 (F13 dyn)) := fun dyn hd => ar1_ok (q13 dyn) (ckL_ok fns sumK kn hd) hd (by kernel_rfl) (hn 13 (by kernel_rfl))
theorem s5 : S1 5 (fun dyn => ar3 (F5 dyn)) := fun dyn hd => ar3_ok (q5 dyn) (ckL_ok fns sumK (kc (s13 dyn hd) kn) hd) hd (by kernel_rfl) (hn 5 (by kernel_rfl))
theorem s12 : S1 12 (fun dyn => ar0 (F12 dyn)) := fun dyn hd => ar0_ok (q12 dyn) (ckL_ok fns sumK kn hd) hd (by kernel_rfl) (hn 12 (by kernel_rfl))
theorem s38 : S1 38 (fun dyn => ar0 (F38 dyn)) := fun dyn hd => ar0_ok (q38 dyn) (ckL_ok fns sumK kn hd) hd (by kernel_rfl) (hn 38 (by kernel_rfl))
theorem s14 : S1 14 (fun dyn => ar1 (F14 dyn)) := fun dyn hd => ar1_ok (q14 dyn) (ckL_ok fns sumK (kc (s38 dyn hd) kn) hd) hd (by kernel_rfl) (hn 14 (by kernel_rfl))
theorem s18 : S1 18 (fun dyn => ar1 (F18 dyn)) := fun dyn hd => ar1_ok (q18 dyn) (ckL_ok fns sumK (kc (s14 dyn hd) kn) hd) hd (by kernel_rfl) (hn 18 (by kernel_rfl))
theorem s81 : S1 81 (fun dyn => ar4 (F81 dyn)) := fun dyn hd => ar4_ok (q81 dyn) (ckL_ok fns sumK kn hd) hd (by kernel_rfl) (hn 81 (by kernel_rfl))
theorem s40 : S1 40 (fun dyn => ar5 (F40 dyn)) := fun dyn hd => ar5_ok (q40 dyn) (ckL_ok fns sumK (kc (s81 dyn hd) kn) hd) hd (by kernel_rfl) (hn 40 (by kernel_rfl))
theorem s90 : S1 90 (fun dyn => ar1 (F90 dyn)) := fun dyn hd => ar1_ok (q90 dyn) (ckL_ok fns sumK kn hd) hd (by kernel_rfl) (hn 90 (by kernel_rfl))
theorem s41 : S1 41 (fun dyn => ar1 (F41 dyn)) := fun dyn hd => ar1_ok (q41 dyn) (ckL_ok fns sumK (kc (s90 dyn hd) kn) hd) hd (by kernel_rfl) (hn 41 (by kernel_rfl))
theorem s19 : S1 19 (fun dyn => ar2 (F19 dyn)) := fun dyn hd => ar2_ok (q19 dyn) (ckL_ok fns sumK (kc (s41 dyn hd) (kc (s40 dyn hd) kn)) hd) hd (by kernel_rfl) (hn 19 (by kernel_rfl))
theorem s91 : S1 91 (fun dyn => ar4 (F91 dyn)) := fun dyn hd => ar4_ok (q91 dyn) (ckL_ok fns sumK kn hd) hd (by kernel_rfl) (hn 91 (by kernel_rfl))
theorem s42 : S1 42 (fun dyn => ar5 (F42 dyn)) := fun dyn hd => ar5_ok (q42 dyn) (ckL_ok fns sumK (kc (s91 dyn hd) kn) hd) hd (by kernel_rfl) (hn 42 (by kernel_rfl))
theorem s22 : S1 22 (fun dyn => ar2 (F22 dyn)) := fun dyn hd => ar2_ok (q22 dyn) (ckL_ok fns sumK (kc (s41 dyn hd) (kc (s42 dyn hd) kn)) hd) hd (by kernel_rfl) (hn 22 (by kernel_rfl))
theorem s99 : S1 99 (fun dyn => ar4 (F99 dyn)) := fun dyn hd => ar4_ok (q99 dyn) (ckL_ok fns sumK kn hd) hd (by kernel_rfl) (hn 99 (by kernel_rfl))
theorem s192 : S1 192 (fun dyn => ar5 (F192 dyn)) := fun dyn hd => ar5_ok (q192 dyn) (ckL_ok fns sumK kn hd) hd (by kernel_rfl) (hn 192 (by kernel_rfl))
theorem s155 : S1 155 (fun dyn => ar6 (F155 dyn)) := fun dyn hd => ar6_ok (q155 dyn) (ckL_ok fns sumK (kc (s192 dyn hd) kn) hd) hd (by kernel_rfl) (hn 155 (by kernel_rfl))
theorem s102 : S1 102 (fun dyn => ar4 (F102 dyn)) := fun dyn hd => ar4_ok (q102 dyn) (ckL_ok fns sumK (kc (s155 dyn hd) kn) hd) hd (by kernel_rfl) (hn 102 (by kernel_rfl))
theorem s104 : S1 104 (fun dyn => ar4 (F104 dyn)) := fun dyn hd => ar4_ok (q104 dyn) (ckL_ok fns sumK kn hd) hd (by kernel_rfl) (hn 104 (by kernel_rfl))
theorem s43 : S1 43 (fun dyn => ar5 (F43 dyn)) := fun dyn hd => ar5_ok (q43 dyn) (ckL_ok fns sumK (kc (s99 dyn hd) (kc (s102 dyn hd) (kc (s104 dyn hd) kn))) hd) hd (by kernel_rfl) (hn 43 (by kernel_rfl))
theorem s24 : S1 24 (fun dyn => ar2 (F24 dyn)) := fun dyn hd => ar2_ok (q24 dyn) (ckL_ok fns sumK (kc (s41 dyn hd) (kc (s43 dyn hd) kn)) hd) hd (by kernel_rfl) (hn 24 (by kernel_rfl))
theorem s7 : S1 7 (fun dyn => ar1 (F7 dyn)) := fun dyn hd => ar1_ok (q7 dyn) (ckL_ok fns sumK (kc (s18 dyn hd) (kc (s14 dyn hd) (kc (s12 dyn hd) (kc (s19 dyn hd) (kc (s22 dyn hd) (kc (s24 dyn hd) kn)))))) hd) hd (by kernel_rfl) (hn 7 (by kernel_rfl))
theorem s108 : S1 108 (fun dyn => ar2 (F108 dyn)) := fun dyn hd => ar2_ok (q108 dyn) (ckL_ok fns sumK kn hd) hd (by kernel_rfl) (hn 108 (by kernel_rfl))
theorem s49 : S1 49 (fun dyn => ar2 (F49 dyn)) := fun dyn hd => ar2_ok (q49 dyn) (ckL_ok fns sumK (kc (s108 dyn hd) kn) hd) hd (by kernel_rfl) (hn 49 (by kernel_rfl))
theorem s61 : S1 61 (fun dyn => ar1 (F61 dyn)) := fun dyn hd => ar1_ok (q61 dyn) (ckL_ok fns sumK kn hd) hd (by kernel_rfl) (hn 61 (by kernel_rfl))
theorem s123 : S1 123 (fun dyn => ar1 (F123 dyn)) := fun dyn hd => ar1_ok (q123 dyn) (ckL_ok fns sumK kn hd) hd (by kernel_rfl) (hn 123 (by kernel_rfl))
theorem s62 : S1 62 (fun dyn => ar2 (F62 dyn)) := fun dyn hd => ar2_ok (q62 dyn) (ckL_ok fns sumK (kc (s123 dyn hd) kn) hd) hd (by kernel_rfl) (hn 62 (by kernel_rfl))
theorem s35 : S1 35 (fun dyn => ar1 (F35 dyn)) := fun dyn hd => ar1_ok (q35 dyn) (ckL_ok fns sumK (kc (s62 dyn hd) kn) hd) hd (by kernel_rfl) (hn 35 (by kernel_rfl))
theorem s63 : S1 63 (fun dyn => ar0 (F63 dyn)) := fun dyn hd => ar0_ok (q63 dyn) (ckL_ok fns sumK (kc (s35 dyn hd) kn) hd) hd (by kernel_rfl) (hn 63 (by kernel_rfl))
theorem s36 : S1 36 (fun dyn => ar1 (F36 dyn)) := fun dyn hd => ar1_ok (q36 dyn) (ckL_ok fns sumK (kc (s61 dyn hd) (kc (s63 dyn hd) (kc (s49 dyn hd) kn))) hd) hd (by kernel_rfl) (hn 36 (by kernel_rfl))
theorem s141 : S1 141 (fun dyn => ar1 (F141 dyn)) := fun dyn hd => ar1_ok (q141 dyn) (ckL_ok fns sumK kn hd) hd (by kernel_rfl) (hn 141 (by kernel_rfl))
theorem s186 : S1 186 (fun dyn => ar1 (F186 dyn)) := fun dyn hd => ar1_ok (q186 dyn) (ckL_ok fns sumK kn hd) hd (by kernel_rfl) (hn 186 (by kernel_rfl))
theorem s187 : S1 187 (fun dyn => ar1 (F187 dyn)) := fun dyn hd => ar1_ok (q187 dyn) (ckL_ok fns sumK kn hd) hd (by kernel_rfl) (hn 187 (by kernel_rfl))
theorem s142 : S1 142 (fun dyn => ar1 (F142 dyn)) := fun dyn hd => ar1_ok (q142 dyn) (ckL_ok fns sumK (kc (s90 dyn hd) (kc (s186 dyn hd) (kc (s187 dyn hd) kn))) hd) hd (by kernel_rfl) (hn 142 (by kernel_rfl))
theorem s143 : S1 143 (fun dyn => ar2 (F143 dyn)) := fun dyn hd => ar2_ok (q143 dyn) (ckL_ok fns sumK kn hd) hd (by kernel_rfl) (hn 143 (by kernel_rfl))
theorem s80 : S1 80 (fun dyn => ar2 (F80 dyn)) := fun dyn hd => ar2_ok (q80 dyn) (ckL_ok fns sumK (kc (s141 dyn hd) (kc (s142 dyn hd) (kc (s143 dyn hd) kn))) hd) hd (by kernel_rfl) (hn 80 (by kernel_rfl))
theorem s39 : S1 39 (fun dyn => ar1 (F39 dyn)) := fun dyn hd => ar1_ok (q39 dyn) (ckL_ok fns sumK (kc (s80 dyn hd) kn) hd) hd (by kernel_rfl) (hn 39 (by kernel_rfl))
theorem s16 : S1 16 (fun dyn => ar1 (F16 dyn)) := fun dyn hd => ar1_ok (q16 dyn) (ckL_ok fns sumK (kc (s39 dyn hd) kn) hd) hd (by kernel_rfl) (hn 16 (by kernel_rfl))
theorem s64 : S1 64 (fun dyn => ar2 (F64 dyn)) := fun dyn hd => ar2_ok (q64 dyn) (ckL_ok fns sumK (kc (s123 dyn hd) kn) hd) hd (by kernel_rfl) (hn 64 (by kernel_rfl))
theorem s66 : S1 66 (fun dyn => ar1 (F66 dyn)) := fun dyn hd => ar1_ok (q66 dyn) (ckL_ok fns sumK kn hd) hd (by kernel_rfl) (hn 66 (by kernel_rfl))
theorem s37 : S1 37 (fun dyn => ar1 (F37 dyn)) := fun dyn hd => ar1_ok (q37 dyn) (ckL_ok fns sumK (kc (s64 dyn hd) (kc (s16 dyn hd) (kc (s66 dyn hd) kn))) hd) hd (by kernel_rfl) (hn 37 (by kernel_rfl))
theorem s10 : S1 10 (fun dyn => ar1 (F10 dyn)) := fun dyn hd => ar1_ok (q10 dyn) (ckL_ok fns sumK (kc (s36 dyn hd) (kc (s37 dyn hd) kn)) hd) hd (by kernel_rfl) (hn 10 (by kernel_rfl))
theorem s198 : S1 198 (fun dyn => ar2 (F198 dyn)) := fun dyn hd => ar2_ok (q198 dyn) (ckL_ok fns sumK kn hd) hd (by kernel_rfl) (hn 198 (by kernel_rfl))
theorem s163 : S1 163 (fun dyn => ar2 (F163 dyn)) := fun dyn hd => ar2_ok (q163 dyn) (ckL_ok fns sumK (kc (s198 dyn hd) kn) hd) hd (by kernel_rfl) (hn 163 (by kernel_rfl))
theorem s114 : S1 114 (fun dyn => ar2 (F114 dyn)) := fun dyn hd => ar2_ok (q114 dyn) (ckL_ok fns sumK (kc (s163 dyn hd) kn) hd) hd (by kernel_rfl) (hn 114 (by kernel_rfl))
theorem s167 : S1 167 (fun dyn => ar1 (F167 dyn)) := fun dyn hd => ar1_ok (q167 dyn) (ckL_ok fns sumK kn hd) hd (by kernel_rfl) (hn 167 (by kernel_rfl))
theorem s199 : S1 199 (fun dyn => ar2 (F199 dyn)) := fun dyn hd => ar2_ok (q199 dyn) (ckL_ok fns sumK kn hd) hd (by kernel_rfl) (hn 199 (by kernel_rfl))
theorem s168 : S1 168 (fun dyn => ar2 (F168 dyn)) := fun dyn hd => ar2_ok (q168 dyn) (ckL_ok fns sumK (kc (s199 dyn hd) kn) hd) hd (by kernel_rfl) (hn 168 (by kernel_rfl))
theorem s169 : S1 169 (fun dyn => ar2 (F169 dyn)) := fun dyn hd => ar2_ok (q169 dyn) (ckL_ok fns sumK (kc (s199 dyn hd) kn) hd) hd (by kernel_rfl) (hn 169 (by kernel_rfl))
theorem s117 : S1 117 (fun dyn => ar2 (F117 dyn)) := fun dyn hd => ar2_ok (q117 dyn) (ckL_ok fns sumK (kc (s167 dyn hd) (kc (s169 dyn hd) (kc (s168 dyn hd) kn))) hd) hd (by kernel_rfl) (hn 117 (by kernel_rfl))
theorem s115 : S1 115 (fun dyn => ar1 (F115 dyn)) := fun dyn hd => ar1_ok (q115 dyn) (ckL_ok fns sumK (kc (s117 dyn hd) kn) hd) hd (by kernel_rfl) (hn 115 (by kernel_rfl))
theorem s182 : S1 182 (fun dyn => ar2 (F182 dyn)) := fun dyn hd => ar2_ok (q182 dyn) (ckL_ok fns sumK kn hd) hd (by kernel_rfl) (hn 182 (by kernel_rfl))
theorem s164 : S1 164 (fun dyn => ar2 (F164 dyn)) := fun dyn hd => ar2_ok (q164 dyn) (ckL_ok fns sumK (kc (s182 dyn hd) kn) hd) hd (by kernel_rfl) (hn 164 (by kernel_rfl))
theorem s116 : S1 116 (fun dyn => ar2 (F116 dyn)) := fun dyn hd => ar2_ok (q116 dyn) (ckL_ok fns sumK (kc (s164 dyn hd) kn) hd) hd (by kernel_rfl) (hn 116 (by kernel_rfl))
theorem s156 : S1 156 (fun dyn => ar3 (F156 dyn)) := fun dyn hd => ar3_ok (q156 dyn) (ckL_ok fns sumK kn hd) hd (by kernel_rfl) (hn 156 (by kernel_rfl))
theorem s107 : S1 107 (fun dyn => ar2 (F107 dyn)) := fun dyn hd => ar2_ok (q107 dyn) (ckL_ok fns sumK (kc (s156 dyn hd) kn) hd) hd (by kernel_rfl) (hn 107 (by kernel_rfl))
theorem s46 : S1 46 (fun dyn => ar2 (F46 dyn)) := fun dyn hd => ar2_ok (q46 dyn) (ckL_ok fns sumK (kc (s107 dyn hd) kn) hd) hd (by kernel_rfl) (hn 46 (by kernel_rfl))
theorem s203 : S1 203 (fun dyn => ar2 (F203 dyn)) := fun dyn hd => ar2_ok (q203 dyn) (ckL_ok fns sumK (kc (s182 dyn hd) kn) hd) hd (by kernel_rfl) (hn 203 (by kernel_rfl))
theorem s172 : S1 172 (fun dyn => ar2 (F172 dyn)) := fun dyn hd => ar2_ok (q172 dyn) (ckL_ok fns sumK (kc (s203 dyn hd) kn) hd) hd (by kernel_rfl) (hn 172 (by kernel_rfl))
theorem s204 : S1 204 (fun dyn => ar3 (F204 dyn)) := fun dyn hd => ar3_ok (q204 dyn) (ckL_ok fns sumK kn hd) hd (by kernel_rfl) (hn 204 (by kernel_rfl))
theorem s174 : S1 174 (fun dyn => ar3 (F174 dyn)) := fun dyn hd => ar3_ok (q174 dyn) (ckL_ok fns sumK (kc (s204 dyn hd) kn) hd) hd (by kernel_rfl) (hn 174 (by kernel_rfl))
theorem s175 : S1 175 (fun dyn => ar3 (F175 dyn)) := fun dyn hd => ar3_ok (q175 dyn) (ckL_ok fns sumK (kc (s123 dyn hd) kn) hd) hd (by kernel_rfl) (hn 175 (by kernel_rfl))
theorem s118 : S1 118 (fun dyn => ar1 (F118 dyn)) := fun dyn hd => ar1_ok (q118 dyn) (ckL_ok fns sumK (kc (s172 dyn hd) (kc (s62 dyn hd) (kc (s174 dyn hd) (kc (s175 dyn hd) (kc (s46 dyn hd) kn))))) hd) hd (by kernel_rfl) (hn 118 (by kernel_rfl))
theorem s176 : S1 176 (fun dyn => ar2 (F176 dyn)) := fun dyn hd => ar2_ok (q176 dyn) (ckL_ok fns sumK (kc (s108 dyn hd) (kc (s64 dyn hd) (kc (s123 dyn hd) kn))) hd) hd (by kernel_rfl) (hn 176 (by kernel_rfl))
theorem s119 : S1 119 (fun dyn => ar2 (F119 dyn)) := fun dyn hd => ar2_ok (q119 dyn) (ckL_ok fns sumK (kc (s176 dyn hd) kn) hd) hd (by kernel_rfl) (hn 119 (by kernel_rfl))
theorem s58 : S1 58 (fun dyn => ar2 (F58 dyn)) := fun dyn hd => ar2_ok (q58 dyn) (ckL_ok fns sumK (kc (s114 dyn hd) (kc (s116 dyn hd) (kc (s115 dyn hd) (kc (s117 dyn hd) (kc (s118 dyn hd) (kc (s63 dyn hd) (kc (s49 dyn hd) (kc (s119 dyn hd) kn)))))))) hd) hd (by kernel_rfl) (hn 58 (by kernel_rfl))
theorem s48 : S1 48 (fun dyn => ar1 (F48 dyn)) := fun dyn hd => ar1_ok (q48 dyn) (ckL_ok fns sumK (kc (s58 dyn hd) kn) hd) hd (by kernel_rfl) (hn 48 (by kernel_rfl))
theorem s29 : S1 29 (fun dyn => ar1 (F29 dyn)) := fun dyn hd => ar1_ok (q29 dyn) (ckL_ok fns sumK (kc (s48 dyn hd) kn) hd) hd (by kernel_rfl) (hn 29 (by kernel_rfl))
theorem s34 : S1 34 (fun dyn => ar1 (F34 dyn)) := fun dyn hd => ar1_ok (q34 dyn) (ckL_ok fns sumK (kc (s61 dyn hd) kn) hd) hd (by kernel_rfl) (hn 34 (by kernel_rfl))
theorem s28 : S1 28 (fun dyn => ar2 (F28 dyn)) := fun dyn hd => ar2_ok (q28 dyn) (ckL_ok fns sumK (kc (s29 dyn hd) (kc (s34 dyn hd) kn)) hd) hd (by kernel_rfl) (hn 28 (by kernel_rfl))
theorem s27 : S1 27 (fun dyn => ar1 (F27 dyn)) := fun dyn hd => ar1_ok (q27 dyn) (ckL_ok fns sumK (kc (s46 dyn hd) kn) hd) hd (by kernel_rfl) (hn 27 (by kernel_rfl))
theorem s44 : S1 44 (fun dyn => ar2 (F44 dyn)) := fun dyn hd => ar2_ok (q44 dyn) (ckL_ok fns sumK (kc (s27 dyn hd) kn) hd) hd (by kernel_rfl) (hn 44 (by kernel_rfl))
theorem s45 : S1 45 (fun dyn => ar1 (F45 dyn)) := fun dyn hd => ar1_ok (q45 dyn) (ckL_ok fns sumK kn hd) hd (by kernel_rfl) (hn 45 (by kernel_rfl))
theorem s26 : S1 26 (fun dyn => ar1 (F26 dyn)) := fun dyn hd => ar1_ok (q26 dyn) (ckL_ok fns sumK (kc (s44 dyn hd) (kc (s45 dyn hd) (kc (s28 dyn hd) kn))) hd) hd (by kernel_rfl) (hn 26 (by kernel_rfl))
theorem s50 : S1 50 (fun dyn => ar2 (F50 dyn)) := fun dyn hd => ar2_ok (q50 dyn) (ckL_ok fns sumK (kc (s62 dyn hd) kn) hd) hd (by kernel_rfl) (hn 50 (by kernel_rfl))
theorem s51 : S1 51 (fun dyn => ar1 (F51 dyn)) := fun dyn hd => ar1_ok (q51 dyn) (ckL_ok fns sumK (kc (s61 dyn hd) (kc (s63 dyn hd) kn)) hd) hd (by kernel_rfl) (hn 51 (by kernel_rfl))
theorem s30 : S1 30 (fun dyn => ar2 (F30 dyn)) := fun dyn hd => ar2_ok (q30 dyn) (ckL_ok fns sumK (kc (s36 dyn hd) (kc (s49 dyn hd) (kc (s51 dyn hd) (kc (s50 dyn hd) kn)))) hd) hd (by kernel_rfl) (hn 30 (by kernel_rfl))
theorem s32 : S1 32 (fun dyn => ar1 (F32 dyn)) := fun dyn hd => ar1_ok (q32 dyn) (ckL_ok fns sumK (kc (s58 dyn hd) kn) hd) hd (by kernel_rfl) (hn 32 (by kernel_rfl))
theorem s113 : S1 113 (fun dyn => ar2 (F113 dyn)) := fun dyn hd => ar2_ok (q113 dyn) (ckL_ok fns sumK kn hd) hd (by kernel_rfl) (hn 113 (by kernel_rfl))
theorem s56 : S1 56 (fun dyn => ar1 (F56 dyn)) := fun dyn hd => ar1_ok (q56 dyn) (ckL_ok fns sumK (kc (s113 dyn hd) kn) hd) hd (by kernel_rfl) (hn 56 (by kernel_rfl))
theorem s109 : S1 109 (fun dyn => ar1 (F109 dyn)) := fun dyn hd => ar1_ok (q109 dyn) (ckL_ok fns sumK (kc (s56 dyn hd) (kc (s32 dyn hd) kn)) hd) hd (by kernel_rfl) (hn 109 (by kernel_rfl))
theorem s9 : S1 9 (fun dyn => ar1 (F9 dyn)) := fun dyn hd => ar1_ok (q9 dyn) (ckL_ok fns sumK (kc (s35 dyn hd) kn) hd) hd (by kernel_rfl) (hn 9 (by kernel_rfl))
theorem s122 : S1 122 (fun dyn => ar1 (F122 dyn)) := fun dyn hd => ar1_ok (q122 dyn) (ckL_ok fns sumK kn hd) hd (by kernel_rfl) (hn 122 (by kernel_rfl))
theorem s60 : S1 60 (fun dyn => ar1 (F60 dyn)) := fun dyn hd => ar1_ok (q60 dyn) (ckL_ok fns sumK (kc (s122 dyn hd) kn) hd) hd (by kernel_rfl) (hn 60 (by kernel_rfl))
theorem s157 : S1 157 (fun dyn => ar1 (F157 dyn)) := fun dyn hd => ar1_ok (q157 dyn) (ckL_ok fns sumK (kc (s60 dyn hd) kn) hd) hd (by kernel_rfl) (hn 157 (by kernel_rfl))
theorem s177 : S1 177 (fun dyn => ar2 (F177 dyn)) := fun dyn hd => ar2_ok (q177 dyn) (ckL_ok fns sumK kn hd) hd (by kernel_rfl) (hn 177 (by kernel_rfl))
theorem s178 : S1 178 (fun dyn => ar2 (F178 dyn)) := fun dyn hd => ar2_ok (q178 dyn) (ckL_ok fns sumK kn hd) hd (by kernel_rfl) (hn 178 (by kernel_rfl))
theorem s120 : S1 120 (fun dyn => ar2 (F120 dyn)) := fun dyn hd => ar2_ok (q120 dyn) (ckL_ok fns sumK (kc (s177 dyn hd) (kc (s62 dyn hd) (kc (s108 dyn hd) (kc (s178 dyn hd) kn)))) hd) hd (by kernel_rfl) (hn 120 (by kernel_rfl))
theorem s121 : S1 121 (fun dyn => ar2 (F121 dyn)) := fun dyn hd => ar2_ok (q121 dyn) (ckL_ok fns sumK (kc (s61 dyn hd) (kc (s122 dyn hd) (kc (s119 dyn hd) (kc (s63 dyn hd) (kc (s49 dyn hd) kn))))) hd) hd (by kernel_rfl) (hn 121 (by kernel_rfl))
theorem s59 : S1 59 (fun dyn => ar2 (F59 dyn)) := fun dyn hd => ar2_ok (q59 dyn) (ckL_ok fns sumK (kc (s36 dyn hd) (kc (s120 dyn hd) (kc (s51 dyn hd) (kc (s50 dyn hd) (kc (s121 dyn hd) kn))))) hd) hd (by kernel_rfl) (hn 59 (by kernel_rfl))
theorem s33 : S1 33 (fun dyn => ar2 (F33 dyn)) := fun dyn hd => ar2_ok (q33 dyn) (ckL_ok fns sumK (kc (s60 dyn hd) (kc (s59 dyn hd) kn)) hd) hd (by kernel_rfl) (hn 33 (by kernel_rfl))
theorem s112 : S1 112 (fun dyn => ar2 (F112 dyn)) := fun dyn hd => ar2_ok (q112 dyn) (ckL_ok fns sumK (kc (s36 dyn hd) (kc (s50 dyn hd) (kc (s51 dyn hd) (kc (s121 dyn hd) kn)))) hd) hd (by kernel_rfl) (hn 112 (by kernel_rfl))
theorem s231 : S1 231 (fun dyn => ar2 (F231 dyn)) := fun dyn hd => ar2_ok (q231 dyn) (ckL_ok fns sumK (kc (s34 dyn hd) (kc (s51 dyn hd) (kc (s50 dyn hd) (kc (s121 dyn hd) kn)))) hd) hd (by kernel_rfl) (hn 231 (by kernel_rfl))
theorem s215 : S1 215 (fun dyn => ar2 (F215 dyn)) := fun dyn hd => ar2_ok (q215 dyn) (ckL_ok fns sumK (kc (s231 dyn hd) kn) hd) hd (by kernel_rfl) (hn 215 (by kernel_rfl))
theorem s216 : S1 216 (fun dyn => ar3 (F216 dyn)) := fun dyn hd => ar3_ok (q216 dyn) (ckL_ok fns sumK (kc (s34 dyn hd) (kc (s112 dyn hd) (kc (s33 dyn hd) kn))) hd) hd (by kernel_rfl) (hn 216 (by kernel_rfl))
theorem s193 : S1 193 (fun dyn => ar3 (F193 dyn)) := fun dyn hd => ar3_ok (q193 dyn) (ckL_ok fns sumK (kc (s9 dyn hd) (kc (s215 dyn hd) (kc (s34 dyn hd) (kc (s216 dyn hd) (kc (s112 dyn hd) (kc (s33 dyn hd) kn)))))) hd) hd (by kernel_rfl) (hn 193 (by kernel_rfl))
theorem s158 : S1 158 (fun dyn => ar1 (F158 dyn)) := fun dyn hd => ar1_ok (q158 dyn) (ckL_ok fns sumK (kc (s34 dyn hd) (kc (s193 dyn hd) kn)) hd) hd (by kernel_rfl) (hn 158 (by kernel_rfl))
theorem s194 : S1 194 (fun dyn => ar1 (F194 dyn)) := fun dyn hd => ar1_ok (q194 dyn) (ckL_ok fns sumK (kc (s34 dyn hd) kn) hd) hd (by kernel_rfl) (hn 194 (by kernel_rfl))
theorem s195 : S1 195 (fun dyn => ar1 (F195 dyn)) := fun dyn hd => ar1_ok (q195 dyn) (ckL_ok fns sumK kn hd) hd (by kernel_rfl) (hn 195 (by kernel_rfl))
theorem s197 : S1 197 (fun dyn => ar2 (F197 dyn)) := fun dyn hd => ar2_ok (q197 dyn) (ckL_ok fns sumK (kc (s34 dyn hd) kn) hd) hd (by kernel_rfl) (hn 197 (by kernel_rfl))
theorem s161 : S1 161 (fun dyn => ar1 (F161 dyn)) := fun dyn hd => ar1_ok (q161 dyn) (ckL_ok fns sumK (kc (s194 dyn hd) (kc (s195 dyn hd) (kc (s9 dyn hd) (kc (s197 dyn hd) (kc (s193 dyn hd) kn))))) hd) hd (by kernel_rfl) (hn 161 (by kernel_rfl))
theorem s110 : S1 110 (fun dyn => ar1 (F110 dyn)) := fun dyn hd => ar1_ok (q110 dyn) (ckL_ok fns sumK (kc (s157 dyn hd) (kc (s158 dyn hd) (kc (s34 dyn hd) (kc (s9 dyn hd) (kc (s161 dyn hd) kn))))) hd) hd (by kernel_rfl) (hn 110 (by kernel_rfl))
theorem s162 : S1 162 (fun dyn => ar1 (F162 dyn)) := fun dyn hd => ar1_ok (q162 dyn) (ckL_ok fns sumK (kc (s10 dyn hd) kn) hd) hd (by kernel_rfl) (hn 162 (by kernel_rfl))
theorem s111 : S1 111 (fun dyn => ar1 (F111 dyn)) := fun dyn hd => ar1_ok (q111 dyn) (ckL_ok fns sumK (kc (s10 dyn hd) (kc (s162 dyn hd) kn)) hd) hd (by kernel_rfl) (hn 111 (by kernel_rfl))
theorem s52 : S1 52 (fun dyn => ar1 (F52 dyn)) := fun dyn hd => ar1_ok (q52 dyn) (ckL_ok fns sumK (kc (s109 dyn hd) (kc (s110 dyn hd) (kc (s111 dyn hd) kn))) hd) hd (by kernel_rfl) (hn 52 (by kernel_rfl))
theorem s53 : S1 53 (fun dyn => ar3 (F53 dyn)) := fun dyn hd => ar3_ok (q53 dyn) (ckL_ok fns sumK (kc (s32 dyn hd) (kc (s9 dyn hd) (kc (s112 dyn hd) (kc (s10 dyn hd) kn)))) hd) hd (by kernel_rfl) (hn 53 (by kernel_rfl))
theorem s54 : S1 54 (fun dyn => ar1 (F54 dyn)) := fun dyn hd => ar1_ok (q54 dyn) (ckL_ok fns sumK kn hd) hd (by kernel_rfl) (hn 54 (by kernel_rfl))
theorem s55 : S1 55 (fun dyn => ar1 (F55 dyn)) := fun dyn hd => ar1_ok (q55 dyn) (ckL_ok fns sumK (kc (s53 dyn hd) (kc (s9 dyn hd) (kc (s10 dyn hd) (kc (s32 dyn hd) (kc (s60 dyn hd) kn))))) hd) hd (by kernel_rfl) (hn 55 (by kernel_rfl))
theorem s57 : S1 57 (fun dyn => ar2 (F57 dyn)) := fun dyn hd => ar2_ok (q57 dyn) (ckL_ok fns sumK (kc (s32 dyn hd) (kc (s112 dyn hd) (kc (s59 dyn hd) kn))) hd) hd (by kernel_rfl) (hn 57 (by kernel_rfl))
theorem s31 : S1 31 (fun dyn => ar3 (F31 dyn)) := fun dyn hd => ar3_ok (q31 dyn) (ckL_ok fns sumK (kc (s54 dyn hd) (kc (s53 dyn hd) (kc (s55 dyn hd) (kc (s52 dyn hd) (kc (s56 dyn hd) (kc (s57 dyn hd) (kc (s10 dyn hd) kn))))))) hd) hd (by kernel_rfl) (hn 31 (by kernel_rfl))
theorem s8 : S1 8 (fun dyn => ar2 (F8 dyn)) := fun dyn hd => ar2_ok (q8 dyn) (ckL_ok fns sumK (kc (s26 dyn hd) (kc (s27 dyn hd) (kc (s28 dyn hd) (kc (s29 dyn hd) (kc (s30 dyn hd) (kc (s31 dyn hd) (kc (s32 dyn hd) (kc (s33 dyn hd) (kc (s10 dyn hd) (kc (s34 dyn hd) kn)))))))))) hd) hd (by kernel_rfl) (hn 8 (by kernel_rfl))
theorem s11 : S1 11 (fun dyn => ar1 (F11 dyn)) := fun dyn hd => ar1_ok (q11 dyn) (ckL_ok fns sumK (kc (s14 dyn hd) kn) hd) hd (by kernel_rfl) (hn 11 (by kernel_rfl))
theorem s15 : S1 15 (fun dyn => ar2 (F15 dyn)) := fun dyn hd => ar2_ok (q15 dyn) (ckL_ok fns sumK kn hd) hd (by kernel_rfl) (hn 15 (by kernel_rfl))
theorem s17 : S1 17 (fun dyn => ar2 (F17 dyn)) := fun dyn hd => ar2_ok (q17 dyn) (ckL_ok fns sumK (kc (s16 dyn hd) kn) hd) hd (by kernel_rfl) (hn 17 (by kernel_rfl))
theorem s21 : S1 21 (fun dyn => ar1 (F21 dyn)) := fun dyn hd => ar1_ok (q21 dyn) (ckL_ok fns sumK kn hd) hd (by kernel_rfl) (hn 21 (by kernel_rfl))
theorem s20 : S1 20 (fun dyn => ar2 (F20 dyn)) := fun dyn hd => ar2_ok (q20 dyn) (ckL_ok fns sumK (kc (s21 dyn hd) kn) hd) hd (by kernel_rfl) (hn 20 (by kernel_rfl))
theorem s23 : S1 23 (fun dyn => ar2 (F23 dyn)) := fun dyn hd => ar2_ok (q23 dyn) (ckL_ok fns sumK (kc (s21 dyn hd) kn) hd) hd (by kernel_rfl) (hn 23 (by kernel_rfl))
theorem s25 : S1 25 (fun dyn => ar2 (F25 dyn)) := fun dyn hd => ar2_ok (q25 dyn) (ckL_ok fns sumK (kc (s21 dyn hd) kn) hd) hd (by kernel_rfl) (hn 25 (by kernel_rfl))
theorem s47 : S1 47 (fun dyn => ar1 (F47 dyn)) := fun dyn hd => ar1_ok (q47 dyn) (ckL_ok fns sumK kn hd) hd (by kernel_rfl) (hn 47 (by kernel_rfl))
theorem s131 : S1 131 (fun dyn => ar3 (F131 dyn)) := fun dyn hd => ar3_ok (q131 dyn) (ckL_ok fns sumK kn hd) hd (by kernel_rfl) (hn 131 (by kernel_rfl))
theorem s132 : S1 132 (fun dyn => ar4 (F132 dyn)) := fun dyn hd => ar4_ok (q132 dyn) (ckL_ok fns sumK kn hd) hd (by kernel_rfl) (hn 132 (by kernel_rfl))
theorem s133 : S1 133 (fun dyn => ar3 (F133 dyn)) := fun dyn hd => ar3_ok (q133 dyn) (ckL_ok fns sumK (kc (s12 dyn hd) kn) hd) hd (by kernel_rfl) (hn 133 (by kernel_rfl))
theorem s134 : S1 134 (fun dyn => ar5 (F134 dyn)) := fun dyn hd => ar5_ok (q134 dyn) (ckL_ok fns sumK kn hd) hd (by kernel_rfl) (hn 134 (by kernel_rfl))
theorem s140 : S1 140 (fun dyn => ar3 (F140 dyn)) := fun dyn hd => ar3_ok (q140 dyn) (ckL_ok fns sumK (kc (s132 dyn hd) kn) hd) hd (by kernel_rfl) (hn 140 (by kernel_rfl))
theorem s173 : S1 173 (fun dyn => ar1 (F173 dyn)) := fun dyn hd => ar1_ok (q173 dyn) (ckL_ok fns sumK kn hd) hd (by kernel_rfl) (hn 173 (by kernel_rfl))
noncomputable def L5 := shL 5 fun dyn => ar3 (F5 dyn)
theorem L5_ : ShOK fns sumK L5 := shL_ok s5
noncomputable def L7 := shL 7 fun dyn => ar1 (F7 dyn)
theorem L7_ : ShOK fns sumK L7 := shL_ok s7
noncomputable def L8 := shL 8 fun dyn => ar2 (F8 dyn)
theorem L8_ : ShOK fns sumK L8 := shL_ok s8
noncomputable def N7_8 := shN 7 L7 L8
theorem N7_8_ : ShOK fns sumK N7_8 := shN_ok L7_ L8_
noncomputable def N5_8 := shN 5 L5 N7_8
theorem N5_8_ : ShOK fns sumK N5_8 := shN_ok L5_ N7_8_
noncomputable def L9 := shL 9 fun dyn => ar1 (F9 dyn)
theorem L9_ : ShOK fns sumK L9 := shL_ok s9
noncomputable def L10 := shL 10 fun dyn => ar1 (F10 dyn)
theorem L10_ : ShOK fns sumK L10 := shL_ok s10
noncomputable def N9_10 := shN 9 L9 L10
theorem N9_10_ : ShOK fns sumK N9_10 := shN_ok L9_ L10_
noncomputable def L11 := shL 11 fun dyn => ar1 (F11 dyn)
theorem L11_ : ShOK fns sumK L11 := shL_ok s11
noncomputable def L12 := shL 12 fun dyn => ar0 (F12 dyn)
theorem L12_ : ShOK fns sumK L12 := shL_ok s12
noncomputable def N11_12 := shN 11 L11 L12
theorem N11_12_ : ShOK fns sumK N11_12 := shN_ok L11_ L12_
noncomputable def N9_12 := shN 10 N9_10 N11_12
theorem N9_12_ : ShOK fns sumK N9_12 := shN_ok N9_10_ N11_12_
noncomputable def N5_12 := shN 8 N5_8 N9_12
theorem N5_12_ : ShOK fns sumK N5_12 := shN_ok N5_8_ N9_12_
noncomputable def L13 := shL 13 fun dyn => ar1 (F13 dyn)
theorem L13_ : ShOK fns sumK L13 := shL_ok s13
noncomputable def L14 := shL 14 fun dyn => ar1 (F14 dyn)
theorem L14_ : ShOK fns sumK L14 := shL_ok s14
noncomputable def N13_14 := shN 13 L13 L14
theorem N13_14_ : ShOK fns sumK N13_14 := shN_ok L13_ L14_
noncomputable def L15 := shL 15 fun dyn => ar2 (F15 dyn)
theorem L15_ : ShOK fns sumK L15 := shL_ok s15
noncomputable def L16 := shL 16 fun dyn => ar1 (F16 dyn)
theorem L16_ : ShOK fns sumK L16 := shL_ok s16
noncomputable def N15_16 := shN 15 L15 L16
theorem N15_16_ : ShOK fns sumK N15_16 := shN_ok L15_ L16_
noncomputable def N13_16 := shN 14 N13_14 N15_16
theorem N13_16_ : ShOK fns sumK N13_16 := shN_ok N13_14_ N15_16_
noncomputable def L17 := shL 17 fun dyn => ar2 (F17 dyn)
theorem L17_ : ShOK fns sumK L17 := shL_ok s17
noncomputable def L18 := shL 18 fun dyn => ar1 (F18 dyn)
theorem L18_ : ShOK fns sumK L18 := shL_ok s18
noncomputable def N17_18 := shN 17 L17 L18
theorem N17_18_ : ShOK fns sumK N17_18 := shN_ok L17_ L18_
noncomputable def L19 := shL 19 fun dyn => ar2 (F19 dyn)
theorem L19_ : ShOK fns sumK L19 := shL_ok s19
noncomputable def L20 := shL 20 fun dyn => ar2 (F20 dyn)
theorem L20_ : ShOK fns sumK L20 := shL_ok s20
noncomputable def N19_20 := shN 19 L19 L20
theorem N19_20_ : ShOK fns sumK N19_20 := shN_ok L19_ L20_
noncomputable def N17_20 := shN 18 N17_18 N19_20
theorem N17_20_ : ShOK fns sumK N17_20 := shN_ok N17_18_ N19_20_
noncomputable def N13_20 := shN 16 N13_16 N17_20
theorem N13_20_ : ShOK fns sumK N13_20 := shN_ok N13_16_ N17_20_
noncomputable def N5_20 := shN 12 N5_12 N13_20
theorem N5_20_ : ShOK fns sumK N5_20 := shN_ok N5_12_ N13_20_
noncomputable def L21 := shL 21 fun dyn => ar1 (F21 dyn)
theorem L21_ : ShOK fns sumK L21 := shL_ok s21
noncomputable def L22 := shL 22 fun dyn => ar2 (F22 dyn)
theorem L22_ : ShOK fns sumK L22 := shL_ok s22
noncomputable def N21_22 := shN 21 L21 L22
theorem N21_22_ : ShOK fns sumK N21_22 := shN_ok L21_ L22_
noncomputable def L23 := shL 23 fun dyn => ar2 (F23 dyn)
theorem L23_ : ShOK fns sumK L23 := shL_ok s23
noncomputable def L24 := shL 24 fun dyn => ar2 (F24 dyn)
theorem L24_ : ShOK fns sumK L24 := shL_ok s24
noncomputable def N23_24 := shN 23 L23 L24
theorem N23_24_ : ShOK fns sumK N23_24 := shN_ok L23_ L24_
noncomputable def N21_24 := shN 22 N21_22 N23_24
theorem N21_24_ : ShOK fns sumK N21_24 := shN_ok N21_22_ N23_24_
noncomputable def L25 := shL 25 fun dyn => ar2 (F25 dyn)
theorem L25_ : ShOK fns sumK L25 := shL_ok s25
noncomputable def L26 := shL 26 fun dyn => ar1 (F26 dyn)
theorem L26_ : ShOK fns sumK L26 := shL_ok s26
noncomputable def N25_26 := shN 25 L25 L26
theorem N25_26_ : ShOK fns sumK N25_26 := shN_ok L25_ L26_
noncomputable def L27 := shL 27 fun dyn => ar1 (F27 dyn)
theorem L27_ : ShOK fns sumK L27 := shL_ok s27
noncomputable def L28 := shL 28 fun dyn => ar2 (F28 dyn)
theorem L28_ : ShOK fns sumK L28 := shL_ok s28
noncomputable def N27_28 := shN 27 L27 L28
theorem N27_28_ : ShOK fns sumK N27_28 := shN_ok L27_ L28_
noncomputable def N25_28 := shN 26 N25_26 N27_28
theorem N25_28_ : ShOK fns sumK N25_28 := shN_ok N25_26_ N27_28_
noncomputable def N21_28 := shN 24 N21_24 N25_28
theorem N21_28_ : ShOK fns sumK N21_28 := shN_ok N21_24_ N25_28_
noncomputable def L29 := shL 29 fun dyn => ar1 (F29 dyn)
theorem L29_ : ShOK fns sumK L29 := shL_ok s29
noncomputable def L30 := shL 30 fun dyn => ar2 (F30 dyn)
theorem L30_ : ShOK fns sumK L30 := shL_ok s30
noncomputable def N29_30 := shN 29 L29 L30
theorem N29_30_ : ShOK fns sumK N29_30 := shN_ok L29_ L30_
noncomputable def L31 := shL 31 fun dyn => ar3 (F31 dyn)
theorem L31_ : ShOK fns sumK L31 := shL_ok s31
noncomputable def L32 := shL 32 fun dyn => ar1 (F32 dyn)
theorem L32_ : ShOK fns sumK L32 := shL_ok s32
noncomputable def N31_32 := shN 31 L31 L32
theorem N31_32_ : ShOK fns sumK N31_32 := shN_ok L31_ L32_
noncomputable def N29_32 := shN 30 N29_30 N31_32
theorem N29_32_ : ShOK fns sumK N29_32 := shN_ok N29_30_ N31_32_
noncomputable def L33 := shL 33 fun dyn => ar2 (F33 dyn)
theorem L33_ : ShOK fns sumK L33 := shL_ok s33
noncomputable def L34 := shL 34 fun dyn => ar1 (F34 dyn)
theorem L34_ : ShOK fns sumK L34 := shL_ok s34
noncomputable def N33_34 := shN 33 L33 L34
theorem N33_34_ : ShOK fns sumK N33_34 := shN_ok L33_ L34_
noncomputable def L35 := shL 35 fun dyn => ar1 (F35 dyn)
theorem L35_ : ShOK fns sumK L35 := shL_ok s35
noncomputable def L36 := shL 36 fun dyn => ar1 (F36 dyn)
theorem L36_ : ShOK fns sumK L36 := shL_ok s36
noncomputable def N35_36 := shN 35 L35 L36
theorem N35_36_ : ShOK fns sumK N35_36 := shN_ok L35_ L36_
noncomputable def N33_36 := shN 34 N33_34 N35_36
theorem N33_36_ : ShOK fns sumK N33_36 := shN_ok N33_34_ N35_36_
noncomputable def N29_36 := shN 32 N29_32 N33_36
theorem N29_36_ : ShOK fns sumK N29_36 := shN_ok N29_32_ N33_36_
noncomputable def N21_36 := shN 28 N21_28 N29_36
theorem N21_36_ : ShOK fns sumK N21_36 := shN_ok N21_28_ N29_36_
noncomputable def N5_36 := shN 20 N5_20 N21_36
theorem N5_36_ : ShOK fns sumK N5_36 := shN_ok N5_20_ N21_36_
noncomputable def L37 := shL 37 fun dyn => ar1 (F37 dyn)
theorem L37_ : ShOK fns sumK L37 := shL_ok s37
noncomputable def L38 := shL 38 fun dyn => ar0 (F38 dyn)
theorem L38_ : ShOK fns sumK L38 := shL_ok s38
noncomputable def L39 := shL 39 fun dyn => ar1 (F39 dyn)
theorem L39_ : ShOK fns sumK L39 := shL_ok s39
noncomputable def N38_39 := shN 38 L38 L39
theorem N38_39_ : ShOK fns sumK N38_39 := shN_ok L38_ L39_
noncomputable def N37_39 := shN 37 L37 N38_39
theorem N37_39_ : ShOK fns sumK N37_39 := shN_ok L37_ N38_39_
noncomputable def L40 := shL 40 fun dyn => ar5 (F40 dyn)
theorem L40_ : ShOK fns sumK L40 := shL_ok s40
noncomputable def L41 := shL 41 fun dyn => ar1 (F41 dyn)
theorem L41_ : ShOK fns sumK L41 := shL_ok s41
noncomputable def N40_41 := shN 40 L40 L41
theorem N40_41_ : ShOK fns sumK N40_41 := shN_ok L40_ L41_
noncomputable def L42 := shL 42 fun dyn => ar5 (F42 dyn)
theorem L42_ : ShOK fns sumK L42 := shL_ok s42
noncomputable def L43 := shL 43 fun dyn => ar5 (F43 dyn)
theorem L43_ : ShOK fns sumK L43 := shL_ok s43
noncomputable def N42_43 := shN 42 L42 L43
theorem N42_43_ : ShOK fns sumK N42_43 := shN_ok L42_ L43_
noncomputable def N40_43 := shN 41 N40_41 N42_43
theorem N40_43_ : ShOK fns sumK N40_43 := shN_ok N40_41_ N42_43_
noncomputable def N37_43 := shN 39 N37_39 N40_43
theorem N37_43_ : ShOK fns sumK N37_43 := shN_ok N37_39_ N40_43_
noncomputable def L44 := shL 44 fun dyn => ar2 (F44 dyn)
theorem L44_ : ShOK fns sumK L44 := shL_ok s44
noncomputable def L45 := shL 45 fun dyn => ar1 (F45 dyn)
theorem L45_ : ShOK fns sumK L45 := shL_ok s45
noncomputable def N44_45 := shN 44 L44 L45
theorem N44_45_ : ShOK fns sumK N44_45 := shN_ok L44_ L45_
noncomputable def L46 := shL 46 fun dyn => ar2 (F46 dyn)
theorem L46_ : ShOK fns sumK L46 := shL_ok s46
noncomputable def L47 := shL 47 fun dyn => ar1 (F47 dyn)
theorem L47_ : ShOK fns sumK L47 := shL_ok s47
noncomputable def N46_47 := shN 46 L46 L47
theorem N46_47_ : ShOK fns sumK N46_47 := shN_ok L46_ L47_
noncomputable def N44_47 := shN 45 N44_45 N46_47
theorem N44_47_ : ShOK fns sumK N44_47 := shN_ok N44_45_ N46_47_
noncomputable def L48 := shL 48 fun dyn => ar1 (F48 dyn)
theorem L48_ : ShOK fns sumK L48 := shL_ok s48
noncomputable def L49 := shL 49 fun dyn => ar2 (F49 dyn)
theorem L49_ : ShOK fns sumK L49 := shL_ok s49
noncomputable def N48_49 := shN 48 L48 L49
theorem N48_49_ : ShOK fns sumK N48_49 := shN_ok L48_ L49_
noncomputable def L50 := shL 50 fun dyn => ar2 (F50 dyn)
theorem L50_ : ShOK fns sumK L50 := shL_ok s50
noncomputable def L51 := shL 51 fun dyn => ar1 (F51 dyn)
theorem L51_ : ShOK fns sumK L51 := shL_ok s51
noncomputable def N50_51 := shN 50 L50 L51
theorem N50_51_ : ShOK fns sumK N50_51 := shN_ok L50_ L51_
noncomputable def N48_51 := shN 49 N48_49 N50_51
theorem N48_51_ : ShOK fns sumK N48_51 := shN_ok N48_49_ N50_51_
noncomputable def N44_51 := shN 47 N44_47 N48_51
theorem N44_51_ : ShOK fns sumK N44_51 := shN_ok N44_47_ N48_51_
noncomputable def N37_51 := shN 43 N37_43 N44_51
theorem N37_51_ : ShOK fns sumK N37_51 := shN_ok N37_43_ N44_51_
noncomputable def L52 := shL 52 fun dyn => ar1 (F52 dyn)
theorem L52_ : ShOK fns sumK L52 := shL_ok s52
noncomputable def L53 := shL 53 fun dyn => ar3 (F53 dyn)
theorem L53_ : ShOK fns sumK L53 := shL_ok s53
noncomputable def N52_53 := shN 52 L52 L53
theorem N52_53_ : ShOK fns sumK N52_53 := shN_ok L52_ L53_
noncomputable def L54 := shL 54 fun dyn => ar1 (F54 dyn)
theorem L54_ : ShOK fns sumK L54 := shL_ok s54
noncomputable def L55 := shL 55 fun dyn => ar1 (F55 dyn)
theorem L55_ : ShOK fns sumK L55 := shL_ok s55
noncomputable def N54_55 := shN 54 L54 L55
theorem N54_55_ : ShOK fns sumK N54_55 := shN_ok L54_ L55_
noncomputable def N52_55 := shN 53 N52_53 N54_55
theorem N52_55_ : ShOK fns sumK N52_55 := shN_ok N52_53_ N54_55_
noncomputable def L56 := shL 56 fun dyn => ar1 (F56 dyn)
theorem L56_ : ShOK fns sumK L56 := shL_ok s56
noncomputable def L57 := shL 57 fun dyn => ar2 (F57 dyn)
theorem L57_ : ShOK fns sumK L57 := shL_ok s57
noncomputable def N56_57 := shN 56 L56 L57
theorem N56_57_ : ShOK fns sumK N56_57 := shN_ok L56_ L57_
noncomputable def L58 := shL 58 fun dyn => ar2 (F58 dyn)
theorem L58_ : ShOK fns sumK L58 := shL_ok s58
noncomputable def L59 := shL 59 fun dyn => ar2 (F59 dyn)
theorem L59_ : ShOK fns sumK L59 := shL_ok s59
noncomputable def N58_59 := shN 58 L58 L59
theorem N58_59_ : ShOK fns sumK N58_59 := shN_ok L58_ L59_
noncomputable def N56_59 := shN 57 N56_57 N58_59
theorem N56_59_ : ShOK fns sumK N56_59 := shN_ok N56_57_ N58_59_
noncomputable def N52_59 := shN 55 N52_55 N56_59
theorem N52_59_ : ShOK fns sumK N52_59 := shN_ok N52_55_ N56_59_
noncomputable def L60 := shL 60 fun dyn => ar1 (F60 dyn)
theorem L60_ : ShOK fns sumK L60 := shL_ok s60
noncomputable def L61 := shL 61 fun dyn => ar1 (F61 dyn)
theorem L61_ : ShOK fns sumK L61 := shL_ok s61
noncomputable def N60_61 := shN 60 L60 L61
theorem N60_61_ : ShOK fns sumK N60_61 := shN_ok L60_ L61_
noncomputable def L62 := shL 62 fun dyn => ar2 (F62 dyn)
theorem L62_ : ShOK fns sumK L62 := shL_ok s62
noncomputable def L63 := shL 63 fun dyn => ar0 (F63 dyn)
theorem L63_ : ShOK fns sumK L63 := shL_ok s63
noncomputable def N62_63 := shN 62 L62 L63
theorem N62_63_ : ShOK fns sumK N62_63 := shN_ok L62_ L63_
noncomputable def N60_63 := shN 61 N60_61 N62_63
theorem N60_63_ : ShOK fns sumK N60_63 := shN_ok N60_61_ N62_63_
noncomputable def L64 := shL 64 fun dyn => ar2 (F64 dyn)
theorem L64_ : ShOK fns sumK L64 := shL_ok s64
noncomputable def L66 := shL 66 fun dyn => ar1 (F66 dyn)
theorem L66_ : ShOK fns sumK L66 := shL_ok s66
noncomputable def N64_66 := shN 64 L64 L66
theorem N64_66_ : ShOK fns sumK N64_66 := shN_ok L64_ L66_
noncomputable def L80 := shL 80 fun dyn => ar2 (F80 dyn)
theorem L80_ : ShOK fns sumK L80 := shL_ok s80
noncomputable def L81 := shL 81 fun dyn => ar4 (F81 dyn)
theorem L81_ : ShOK fns sumK L81 := shL_ok s81
noncomputable def N80_81 := shN 80 L80 L81
theorem N80_81_ : ShOK fns sumK N80_81 := shN_ok L80_ L81_
noncomputable def N64_81 := shN 66 N64_66 N80_81
theorem N64_81_ : ShOK fns sumK N64_81 := shN_ok N64_66_ N80_81_
noncomputable def N60_81 := shN 63 N60_63 N64_81
theorem N60_81_ : ShOK fns sumK N60_81 := shN_ok N60_63_ N64_81_
noncomputable def N52_81 := shN 59 N52_59 N60_81
theorem N52_81_ : ShOK fns sumK N52_81 := shN_ok N52_59_ N60_81_
noncomputable def N37_81 := shN 51 N37_51 N52_81
theorem N37_81_ : ShOK fns sumK N37_81 := shN_ok N37_51_ N52_81_
noncomputable def N5_81 := shN 36 N5_36 N37_81
theorem N5_81_ : ShOK fns sumK N5_81 := shN_ok N5_36_ N37_81_
noncomputable def L90 := shL 90 fun dyn => ar1 (F90 dyn)
theorem L90_ : ShOK fns sumK L90 := shL_ok s90
noncomputable def L91 := shL 91 fun dyn => ar4 (F91 dyn)
theorem L91_ : ShOK fns sumK L91 := shL_ok s91
noncomputable def L99 := shL 99 fun dyn => ar4 (F99 dyn)
theorem L99_ : ShOK fns sumK L99 := shL_ok s99
noncomputable def N91_99 := shN 91 L91 L99
theorem N91_99_ : ShOK fns sumK N91_99 := shN_ok L91_ L99_
noncomputable def N90_99 := shN 90 L90 N91_99
theorem N90_99_ : ShOK fns sumK N90_99 := shN_ok L90_ N91_99_
noncomputable def L102 := shL 102 fun dyn => ar4 (F102 dyn)
theorem L102_ : ShOK fns sumK L102 := shL_ok s102
noncomputable def L104 := shL 104 fun dyn => ar4 (F104 dyn)
theorem L104_ : ShOK fns sumK L104 := shL_ok s104
noncomputable def N102_104 := shN 102 L102 L104
theorem N102_104_ : ShOK fns sumK N102_104 := shN_ok L102_ L104_
noncomputable def L107 := shL 107 fun dyn => ar2 (F107 dyn)
theorem L107_ : ShOK fns sumK L107 := shL_ok s107
noncomputable def L108 := shL 108 fun dyn => ar2 (F108 dyn)
theorem L108_ : ShOK fns sumK L108 := shL_ok s108
noncomputable def N107_108 := shN 107 L107 L108
theorem N107_108_ : ShOK fns sumK N107_108 := shN_ok L107_ L108_
noncomputable def N102_108 := shN 104 N102_104 N107_108
theorem N102_108_ : ShOK fns sumK N102_108 := shN_ok N102_104_ N107_108_
noncomputable def N90_108 := shN 99 N90_99 N102_108
theorem N90_108_ : ShOK fns sumK N90_108 := shN_ok N90_99_ N102_108_
noncomputable def L109 := shL 109 fun dyn => ar1 (F109 dyn)
theorem L109_ : ShOK fns sumK L109 := shL_ok s109
noncomputable def L110 := shL 110 fun dyn => ar1 (F110 dyn)
theorem L110_ : ShOK fns sumK L110 := shL_ok s110
noncomputable def N109_110 := shN 109 L109 L110
theorem N109_110_ : ShOK fns sumK N109_110 := shN_ok L109_ L110_
noncomputable def L111 := shL 111 fun dyn => ar1 (F111 dyn)
theorem L111_ : ShOK fns sumK L111 := shL_ok s111
noncomputable def L112 := shL 112 fun dyn => ar2 (F112 dyn)
theorem L112_ : ShOK fns sumK L112 := shL_ok s112
noncomputable def N111_112 := shN 111 L111 L112
theorem N111_112_ : ShOK fns sumK N111_112 := shN_ok L111_ L112_
noncomputable def N109_112 := shN 110 N109_110 N111_112
theorem N109_112_ : ShOK fns sumK N109_112 := shN_ok N109_110_ N111_112_
noncomputable def L113 := shL 113 fun dyn => ar2 (F113 dyn)
theorem L113_ : ShOK fns sumK L113 := shL_ok s113
noncomputable def L114 := shL 114 fun dyn => ar2 (F114 dyn)
theorem L114_ : ShOK fns sumK L114 := shL_ok s114
noncomputable def N113_114 := shN 113 L113 L114
theorem N113_114_ : ShOK fns sumK N113_114 := shN_ok L113_ L114_
noncomputable def L115 := shL 115 fun dyn => ar1 (F115 dyn)
theorem L115_ : ShOK fns sumK L115 := shL_ok s115
noncomputable def L116 := shL 116 fun dyn => ar2 (F116 dyn)
theorem L116_ : ShOK fns sumK L116 := shL_ok s116
noncomputable def N115_116 := shN 115 L115 L116
theorem N115_116_ : ShOK fns sumK N115_116 := shN_ok L115_ L116_
noncomputable def N113_116 := shN 114 N113_114 N115_116
theorem N113_116_ : ShOK fns sumK N113_116 := shN_ok N113_114_ N115_116_
noncomputable def N109_116 := shN 112 N109_112 N113_116
theorem N109_116_ : ShOK fns sumK N109_116 := shN_ok N109_112_ N113_116_
noncomputable def N90_116 := shN 108 N90_108 N109_116
theorem N90_116_ : ShOK fns sumK N90_116 := shN_ok N90_108_ N109_116_
noncomputable def L117 := shL 117 fun dyn => ar2 (F117 dyn)
theorem L117_ : ShOK fns sumK L117 := shL_ok s117
noncomputable def L118 := shL 118 fun dyn => ar1 (F118 dyn)
theorem L118_ : ShOK fns sumK L118 := shL_ok s118
noncomputable def N117_118 := shN 117 L117 L118
theorem N117_118_ : ShOK fns sumK N117_118 := shN_ok L117_ L118_
noncomputable def L119 := shL 119 fun dyn => ar2 (F119 dyn)
theorem L119_ : ShOK fns sumK L119 := shL_ok s119
noncomputable def L120 := shL 120 fun dyn => ar2 (F120 dyn)
theorem L120_ : ShOK fns sumK L120 := shL_ok s120
noncomputable def N119_120 := shN 119 L119 L120
theorem N119_120_ : ShOK fns sumK N119_120 := shN_ok L119_ L120_
noncomputable def N117_120 := shN 118 N117_118 N119_120
theorem N117_120_ : ShOK fns sumK N117_120 := shN_ok N117_118_ N119_120_
noncomputable def L121 := shL 121 fun dyn => ar2 (F121 dyn)
theorem L121_ : ShOK fns sumK L121 := shL_ok s121
noncomputable def L122 := shL 122 fun dyn => ar1 (F122 dyn)
theorem L122_ : ShOK fns sumK L122 := shL_ok s122
noncomputable def N121_122 := shN 121 L121 L122
theorem N121_122_ : ShOK fns sumK N121_122 := shN_ok L121_ L122_
noncomputable def L123 := shL 123 fun dyn => ar1 (F123 dyn)
theorem L123_ : ShOK fns sumK L123 := shL_ok s123
noncomputable def L131 := shL 131 fun dyn => ar3 (F131 dyn)
theorem L131_ : ShOK fns sumK L131 := shL_ok s131
noncomputable def N123_131 := shN 123 L123 L131
theorem N123_131_ : ShOK fns sumK N123_131 := shN_ok L123_ L131_
noncomputable def N121_131 := shN 122 N121_122 N123_131
theorem N121_131_ : ShOK fns sumK N121_131 := shN_ok N121_122_ N123_131_
noncomputable def N117_131 := shN 120 N117_120 N121_131
theorem N117_131_ : ShOK fns sumK N117_131 := shN_ok N117_120_ N121_131_
noncomputable def L132 := shL 132 fun dyn => ar4 (F132 dyn)
theorem L132_ : ShOK fns sumK L132 := shL_ok s132
noncomputable def L133 := shL 133 fun dyn => ar3 (F133 dyn)
theorem L133_ : ShOK fns sumK L133 := shL_ok s133
noncomputable def N132_133 := shN 132 L132 L133
theorem N132_133_ : ShOK fns sumK N132_133 := shN_ok L132_ L133_
noncomputable def L134 := shL 134 fun dyn => ar5 (F134 dyn)
theorem L134_ : ShOK fns sumK L134 := shL_ok s134
noncomputable def L140 := shL 140 fun dyn => ar3 (F140 dyn)
theorem L140_ : ShOK fns sumK L140 := shL_ok s140
noncomputable def N134_140 := shN 134 L134 L140
theorem N134_140_ : ShOK fns sumK N134_140 := shN_ok L134_ L140_
noncomputable def N132_140 := shN 133 N132_133 N134_140
theorem N132_140_ : ShOK fns sumK N132_140 := shN_ok N132_133_ N134_140_
noncomputable def L141 := shL 141 fun dyn => ar1 (F141 dyn)
theorem L141_ : ShOK fns sumK L141 := shL_ok s141
noncomputable def L142 := shL 142 fun dyn => ar1 (F142 dyn)
theorem L142_ : ShOK fns sumK L142 := shL_ok s142
noncomputable def N141_142 := shN 141 L141 L142
theorem N141_142_ : ShOK fns sumK N141_142 := shN_ok L141_ L142_
noncomputable def L143 := shL 143 fun dyn => ar2 (F143 dyn)
theorem L143_ : ShOK fns sumK L143 := shL_ok s143
noncomputable def L155 := shL 155 fun dyn => ar6 (F155 dyn)
theorem L155_ : ShOK fns sumK L155 := shL_ok s155
noncomputable def N143_155 := shN 143 L143 L155
theorem N143_155_ : ShOK fns sumK N143_155 := shN_ok L143_ L155_
noncomputable def N141_155 := shN 142 N141_142 N143_155
theorem N141_155_ : ShOK fns sumK N141_155 := shN_ok N141_142_ N143_155_
noncomputable def N132_155 := shN 140 N132_140 N141_155
theorem N132_155_ : ShOK fns sumK N132_155 := shN_ok N132_140_ N141_155_
noncomputable def N117_155 := shN 131 N117_131 N132_155
theorem N117_155_ : ShOK fns sumK N117_155 := shN_ok N117_131_ N132_155_
noncomputable def N90_155 := shN 116 N90_116 N117_155
theorem N90_155_ : ShOK fns sumK N90_155 := shN_ok N90_116_ N117_155_
noncomputable def L156 := shL 156 fun dyn => ar3 (F156 dyn)
theorem L156_ : ShOK fns sumK L156 := shL_ok s156
noncomputable def L157 := shL 157 fun dyn => ar1 (F157 dyn)
theorem L157_ : ShOK fns sumK L157 := shL_ok s157
noncomputable def N156_157 := shN 156 L156 L157
theorem N156_157_ : ShOK fns sumK N156_157 := shN_ok L156_ L157_
noncomputable def L158 := shL 158 fun dyn => ar1 (F158 dyn)
theorem L158_ : ShOK fns sumK L158 := shL_ok s158
noncomputable def L161 := shL 161 fun dyn => ar1 (F161 dyn)
theorem L161_ : ShOK fns sumK L161 := shL_ok s161
noncomputable def N158_161 := shN 158 L158 L161
theorem N158_161_ : ShOK fns sumK N158_161 := shN_ok L158_ L161_
noncomputable def N156_161 := shN 157 N156_157 N158_161
theorem N156_161_ : ShOK fns sumK N156_161 := shN_ok N156_157_ N158_161_
noncomputable def L162 := shL 162 fun dyn => ar1 (F162 dyn)
theorem L162_ : ShOK fns sumK L162 := shL_ok s162
noncomputable def L163 := shL 163 fun dyn => ar2 (F163 dyn)
theorem L163_ : ShOK fns sumK L163 := shL_ok s163
noncomputable def N162_163 := shN 162 L162 L163
theorem N162_163_ : ShOK fns sumK N162_163 := shN_ok L162_ L163_
noncomputable def L164 := shL 164 fun dyn => ar2 (F164 dyn)
theorem L164_ : ShOK fns sumK L164 := shL_ok s164
noncomputable def L167 := shL 167 fun dyn => ar1 (F167 dyn)
theorem L167_ : ShOK fns sumK L167 := shL_ok s167
noncomputable def N164_167 := shN 164 L164 L167
theorem N164_167_ : ShOK fns sumK N164_167 := shN_ok L164_ L167_
noncomputable def N162_167 := shN 163 N162_163 N164_167
theorem N162_167_ : ShOK fns sumK N162_167 := shN_ok N162_163_ N164_167_
noncomputable def N156_167 := shN 161 N156_161 N162_167
theorem N156_167_ : ShOK fns sumK N156_167 := shN_ok N156_161_ N162_167_
noncomputable def L168 := shL 168 fun dyn => ar2 (F168 dyn)
theorem L168_ : ShOK fns sumK L168 := shL_ok s168
noncomputable def L169 := shL 169 fun dyn => ar2 (F169 dyn)
theorem L169_ : ShOK fns sumK L169 := shL_ok s169
noncomputable def N168_169 := shN 168 L168 L169
theorem N168_169_ : ShOK fns sumK N168_169 := shN_ok L168_ L169_
noncomputable def L172 := shL 172 fun dyn => ar2 (F172 dyn)
theorem L172_ : ShOK fns sumK L172 := shL_ok s172
noncomputable def L173 := shL 173 fun dyn => ar1 (F173 dyn)
theorem L173_ : ShOK fns sumK L173 := shL_ok s173
noncomputable def N172_173 := shN 172 L172 L173
theorem N172_173_ : ShOK fns sumK N172_173 := shN_ok L172_ L173_
noncomputable def N168_173 := shN 169 N168_169 N172_173
theorem N168_173_ : ShOK fns sumK N168_173 := shN_ok N168_169_ N172_173_
noncomputable def L174 := shL 174 fun dyn => ar3 (F174 dyn)
theorem L174_ : ShOK fns sumK L174 := shL_ok s174
noncomputable def L175 := shL 175 fun dyn => ar3 (F175 dyn)
theorem L175_ : ShOK fns sumK L175 := shL_ok s175
noncomputable def N174_175 := shN 174 L174 L175
theorem N174_175_ : ShOK fns sumK N174_175 := shN_ok L174_ L175_
noncomputable def L176 := shL 176 fun dyn => ar2 (F176 dyn)
theorem L176_ : ShOK fns sumK L176 := shL_ok s176
noncomputable def L177 := shL 177 fun dyn => ar2 (F177 dyn)
theorem L177_ : ShOK fns sumK L177 := shL_ok s177
noncomputable def N176_177 := shN 176 L176 L177
theorem N176_177_ : ShOK fns sumK N176_177 := shN_ok L176_ L177_
noncomputable def N174_177 := shN 175 N174_175 N176_177
theorem N174_177_ : ShOK fns sumK N174_177 := shN_ok N174_175_ N176_177_
noncomputable def N168_177 := shN 173 N168_173 N174_177
theorem N168_177_ : ShOK fns sumK N168_177 := shN_ok N168_173_ N174_177_
noncomputable def N156_177 := shN 167 N156_167 N168_177
theorem N156_177_ : ShOK fns sumK N156_177 := shN_ok N156_167_ N168_177_
noncomputable def L178 := shL 178 fun dyn => ar2 (F178 dyn)
theorem L178_ : ShOK fns sumK L178 := shL_ok s178
noncomputable def L182 := shL 182 fun dyn => ar2 (F182 dyn)
theorem L182_ : ShOK fns sumK L182 := shL_ok s182
noncomputable def N178_182 := shN 178 L178 L182
theorem N178_182_ : ShOK fns sumK N178_182 := shN_ok L178_ L182_
noncomputable def L186 := shL 186 fun dyn => ar1 (F186 dyn)
theorem L186_ : ShOK fns sumK L186 := shL_ok s186
noncomputable def L187 := shL 187 fun dyn => ar1 (F187 dyn)
theorem L187_ : ShOK fns sumK L187 := shL_ok s187
noncomputable def N186_187 := shN 186 L186 L187
theorem N186_187_ : ShOK fns sumK N186_187 := shN_ok L186_ L187_
noncomputable def N178_187 := shN 182 N178_182 N186_187
theorem N178_187_ : ShOK fns sumK N178_187 := shN_ok N178_182_ N186_187_
noncomputable def L192 := shL 192 fun dyn => ar5 (F192 dyn)
theorem L192_ : ShOK fns sumK L192 := shL_ok s192
noncomputable def L193 := shL 193 fun dyn => ar3 (F193 dyn)
theorem L193_ : ShOK fns sumK L193 := shL_ok s193
noncomputable def N192_193 := shN 192 L192 L193
theorem N192_193_ : ShOK fns sumK N192_193 := shN_ok L192_ L193_
noncomputable def L194 := shL 194 fun dyn => ar1 (F194 dyn)
theorem L194_ : ShOK fns sumK L194 := shL_ok s194
noncomputable def L195 := shL 195 fun dyn => ar1 (F195 dyn)
theorem L195_ : ShOK fns sumK L195 := shL_ok s195
noncomputable def N194_195 := shN 194 L194 L195
theorem N194_195_ : ShOK fns sumK N194_195 := shN_ok L194_ L195_
noncomputable def N192_195 := shN 193 N192_193 N194_195
theorem N192_195_ : ShOK fns sumK N192_195 := shN_ok N192_193_ N194_195_
noncomputable def N178_195 := shN 187 N178_187 N192_195
theorem N178_195_ : ShOK fns sumK N178_195 := shN_ok N178_187_ N192_195_
noncomputable def L197 := shL 197 fun dyn => ar2 (F197 dyn)
theorem L197_ : ShOK fns sumK L197 := shL_ok s197
noncomputable def L198 := shL 198 fun dyn => ar2 (F198 dyn)
theorem L198_ : ShOK fns sumK L198 := shL_ok s198
noncomputable def N197_198 := shN 197 L197 L198
theorem N197_198_ : ShOK fns sumK N197_198 := shN_ok L197_ L198_
noncomputable def L199 := shL 199 fun dyn => ar2 (F199 dyn)
theorem L199_ : ShOK fns sumK L199 := shL_ok s199
noncomputable def L203 := shL 203 fun dyn => ar2 (F203 dyn)
theorem L203_ : ShOK fns sumK L203 := shL_ok s203
noncomputable def N199_203 := shN 199 L199 L203
theorem N199_203_ : ShOK fns sumK N199_203 := shN_ok L199_ L203_
noncomputable def N197_203 := shN 198 N197_198 N199_203
theorem N197_203_ : ShOK fns sumK N197_203 := shN_ok N197_198_ N199_203_
noncomputable def L204 := shL 204 fun dyn => ar3 (F204 dyn)
theorem L204_ : ShOK fns sumK L204 := shL_ok s204
noncomputable def L215 := shL 215 fun dyn => ar2 (F215 dyn)
theorem L215_ : ShOK fns sumK L215 := shL_ok s215
noncomputable def N204_215 := shN 204 L204 L215
theorem N204_215_ : ShOK fns sumK N204_215 := shN_ok L204_ L215_
noncomputable def L216 := shL 216 fun dyn => ar3 (F216 dyn)
theorem L216_ : ShOK fns sumK L216 := shL_ok s216
noncomputable def L231 := shL 231 fun dyn => ar2 (F231 dyn)
theorem L231_ : ShOK fns sumK L231 := shL_ok s231
noncomputable def N216_231 := shN 216 L216 L231
theorem N216_231_ : ShOK fns sumK N216_231 := shN_ok L216_ L231_
noncomputable def N204_231 := shN 215 N204_215 N216_231
theorem N204_231_ : ShOK fns sumK N204_231 := shN_ok N204_215_ N216_231_
noncomputable def N197_231 := shN 203 N197_203 N204_231
theorem N197_231_ : ShOK fns sumK N197_231 := shN_ok N197_203_ N204_231_
noncomputable def N178_231 := shN 195 N178_195 N197_231
theorem N178_231_ : ShOK fns sumK N178_231 := shN_ok N178_195_ N197_231_
noncomputable def N156_231 := shN 177 N156_177 N178_231
theorem N156_231_ : ShOK fns sumK N156_231 := shN_ok N156_177_ N178_231_
noncomputable def N90_231 := shN 155 N90_155 N156_231
theorem N90_231_ : ShOK fns sumK N90_231 := shN_ok N90_155_ N156_231_
noncomputable def N5_231 := shN 81 N5_81 N90_231
theorem N5_231_ : ShOK fns sumK N5_231 := shN_ok N5_81_ N90_231_
noncomputable def shA : CallK → CallK → CallK := N5_231
theorem shA_ok : ShOK fns sumK shA := N5_231_
end Go.Proofs.TG
