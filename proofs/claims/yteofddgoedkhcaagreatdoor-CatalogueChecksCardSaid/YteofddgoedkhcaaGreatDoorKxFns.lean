/- Printed by a program (wip/tools/mkcodes.py): functions of the program, in the form that the abstract interpreter runs. -/
import Derived.Test.YteofddgoedkhcaaGreatDoorKxCodes1
import Derived.Test.YteofddgoedkhcaaGreatDoorAbsTop
import Derived.Test.YteofddgoedkhcaaGreatDoorProg
import Derived.KernelRfl
namespace Go.Proofs.TK
open Go Go.Abs Go.Proofs
def fns (k : Nat) : Option AFn := (bif Nat.ble k (nat_lit 52) then (bif Nat.ble k (nat_lit 22) then (bif Nat.ble k (nat_lit 11) then (bif Nat.ble k (nat_lit 7) then (bif Nat.ble k (nat_lit 5) then (bif Nat.ble k (nat_lit 3) then (bif Nat.beq k (nat_lit 3) then some c3 else none) else (bif Nat.beq k (nat_lit 5) then some c5 else none)) else (bif Nat.ble k (nat_lit 6) then (bif Nat.beq k (nat_lit 6) then some c6 else none) else (bif Nat.beq k (nat_lit 7) then some c7 else none))) else (bif Nat.ble k (nat_lit 9) then (bif Nat.ble k (nat_lit 8) then (bif Nat.beq k (nat_lit 8) then some c8 else none) else (bif Nat.beq k (nat_lit 9) then some c9 else none)) else (bif Nat.ble k (nat_lit 10) then (bif Nat.beq k (nat_lit 10) then some c10 else none) else (bif Nat.beq k (nat_lit 11) then some c11 else none)))) else (bif Nat.ble k (nat_lit 18) then (bif Nat.ble k (nat_lit 13) then (bif Nat.ble k (nat_lit 12) then (bif Nat.beq k (nat_lit 12) then some c12 else none) else (bif Nat.beq k (nat_lit 13) then some c13 else none)) else (bif Nat.ble k (nat_lit 17) then (bif Nat.beq k (nat_lit 17) then some c17 else none) else (bif Nat.beq k (nat_lit 18) then some c18 else none))) else (bif Nat.ble k (nat_lit 20) then (bif Nat.ble k (nat_lit 19) then (bif Nat.beq k (nat_lit 19) then some c19 else none) else (bif Nat.beq k (nat_lit 20) then some c20 else none)) else (bif Nat.ble k (nat_lit 21) then (bif Nat.beq k (nat_lit 21) then some c21 else none) else (bif Nat.beq k (nat_lit 22) then some c22 else none))))) else (bif Nat.ble k (nat_lit 39) then (bif Nat.ble k (nat_lit 26) then (bif Nat.ble k (nat_lit 24) then (bif Nat.ble k (nat_lit 23) then (bif Nat.beq k (nat_lit 23) then some c23 else none) else (bif Nat.beq k (nat_lit 24) then some c24 else none)) else (bif Nat.ble k (nat_lit 25) then (bif Nat.beq k (nat_lit 25) then some c25 else none) else (bif Nat.beq k (nat_lit 26) then some c26 else none))) else (bif Nat.ble k (nat_lit 28) then (bif Nat.ble k (nat_lit 27) then (bif Nat.beq k (nat_lit 27) then some c27 else none) else (bif Nat.beq k (nat_lit 28) then some c28 else none)) else (bif Nat.ble k (nat_lit 38) then (bif Nat.beq k (nat_lit 38) then some c38 else none) else (bif Nat.beq k (nat_lit 39) then some c39 else none)))) else (bif Nat.ble k (nat_lit 43) then (bif Nat.ble k (nat_lit 41) then (bif Nat.ble k (nat_lit 40) then (bif Nat.beq k (nat_lit 40) then some c40 else none) else (bif Nat.beq k (nat_lit 41) then some c41 else none)) else (bif Nat.ble k (nat_lit 42) then (bif Nat.beq k (nat_lit 42) then some c42 else none) else (bif Nat.beq k (nat_lit 43) then some c43 else none))) else (bif Nat.ble k (nat_lit 49) then (bif Nat.ble k (nat_lit 48) then (bif Nat.beq k (nat_lit 48) then some c48 else none) else (bif Nat.beq k (nat_lit 49) then some c49 else none)) else (bif Nat.ble k (nat_lit 50) then (bif Nat.beq k (nat_lit 50) then some c50 else none) else (bif Nat.ble k (nat_lit 51) then (bif Nat.beq k (nat_lit 51) then some c51 else none) else (bif Nat.beq k (nat_lit 52) then some c52 else none))))))) else (bif Nat.ble k (nat_lit 88) then (bif Nat.ble k (nat_lit 60) then (bif Nat.ble k (nat_lit 56) then (bif Nat.ble k (nat_lit 54) then (bif Nat.ble k (nat_lit 53) then (bif Nat.beq k (nat_lit 53) then some c53 else none) else (bif Nat.beq k (nat_lit 54) then some c54 else none)) else (bif Nat.ble k (nat_lit 55) then (bif Nat.beq k (nat_lit 55) then some c55 else none) else (bif Nat.beq k (nat_lit 56) then some c56 else none))) else (bif Nat.ble k (nat_lit 58) then (bif Nat.ble k (nat_lit 57) then (bif Nat.beq k (nat_lit 57) then some c57 else none) else (bif Nat.beq k (nat_lit 58) then some c58 else none)) else (bif Nat.ble k (nat_lit 59) then (bif Nat.beq k (nat_lit 59) then some c59 else none) else (bif Nat.beq k (nat_lit 60) then some c60 else none)))) else (bif Nat.ble k (nat_lit 79) then (bif Nat.ble k (nat_lit 70) then (bif Nat.ble k (nat_lit 61) then (bif Nat.beq k (nat_lit 61) then some c61 else none) else (bif Nat.beq k (nat_lit 70) then some c70 else none)) else (bif Nat.ble k (nat_lit 71) then (bif Nat.beq k (nat_lit 71) then some c71 else none) else (bif Nat.beq k (nat_lit 79) then some c79 else none))) else (bif Nat.ble k (nat_lit 84) then (bif Nat.ble k (nat_lit 82) then (bif Nat.beq k (nat_lit 82) then some c82 else none) else (bif Nat.beq k (nat_lit 84) then some c84 else none)) else (bif Nat.ble k (nat_lit 87) then (bif Nat.beq k (nat_lit 87) then some c87 else none) else (bif Nat.beq k (nat_lit 88) then some c88 else none))))) else (bif Nat.ble k (nat_lit 96) then (bif Nat.ble k (nat_lit 92) then (bif Nat.ble k (nat_lit 90) then (bif Nat.ble k (nat_lit 89) then (bif Nat.beq k (nat_lit 89) then some c89 else none) else (bif Nat.beq k (nat_lit 90) then some c90 else none)) else (bif Nat.ble k (nat_lit 91) then (bif Nat.beq k (nat_lit 91) then some c91 else none) else (bif Nat.beq k (nat_lit 92) then some c92 else none))) else (bif Nat.ble k (nat_lit 94) then (bif Nat.ble k (nat_lit 93) then (bif Nat.beq k (nat_lit 93) then some c93 else none) else (bif Nat.beq k (nat_lit 94) then some c94 else none)) else (bif Nat.ble k (nat_lit 95) then (bif Nat.beq k (nat_lit 95) then some c95 else none) else (bif Nat.beq k (nat_lit 96) then some c96 else none)))) else (bif Nat.ble k (nat_lit 100) then (bif Nat.ble k (nat_lit 98) then (bif Nat.ble k (nat_lit 97) then (bif Nat.beq k (nat_lit 97) then some c97 else none) else (bif Nat.beq k (nat_lit 98) then some c98 else none)) else (bif Nat.ble k (nat_lit 99) then (bif Nat.beq k (nat_lit 99) then some c99 else none) else (bif Nat.beq k (nat_lit 100) then some c100 else none))) else (bif Nat.ble k (nat_lit 113) then (bif Nat.ble k (nat_lit 112) then (bif Nat.beq k (nat_lit 112) then some c112 else none) else (bif Nat.beq k (nat_lit 113) then some c113 else none)) else (bif Nat.ble k (nat_lit 114) then (bif Nat.beq k (nat_lit 114) then some c114 else none) else (bif Nat.ble k (nat_lit 115) then (bif Nat.beq k (nat_lit 115) then some c115 else none) else (bif Nat.beq k (nat_lit 120) then some c120 else none))))))))
def gs : List Nat := [0, 1, 2]
theorem brk {α : Type} {b : Bool} {x y : Option α} {z : α} {C : Prop} (h : (bif b then x else y) = some z) (h1 : x = some z → C) (h2 : y = some z → C) : C := by cases b; exact h2 h; exact h1 h
def Is (P : Program) (k : Nat) (c : AFn) : Prop := ∃ fn, P.funcs[k]? = some fn ∧ cfn P gs fn = some c
theorem leaf {P : Program} {f k : Nat} {c afn : AFn} (h : (bif Nat.beq f k then some c else none) = some afn) (hk : Is P k c) : ∃ fn, P.funcs[f]? = some fn ∧ cfn P gs fn = some afn := by
  cases hb : Nat.beq f k with
  | false => rw [hb] at h; cases h
  | true => rw [hb] at h; obtain rfl := Nat.eq_of_beq_eq_true hb; cases h; exact hk
set_option maxRecDepth 100000
theorem ok3 : Is Tryz.prog 3 c3 := ⟨Tryz.f3, by kernel_rfl, by kernel_rfl⟩
theorem ok5 : Is Tryz.prog 5 c5 := ⟨Tryz.f5, by kernel_rfl, by kernel_rfl⟩
theorem ok6 : Is Tryz.prog 6 c6 := ⟨Tryz.f6, by kernel_rfl, by kernel_rfl⟩
theorem ok7 : Is Tryz.prog 7 c7 := ⟨Tryz.f7, by kernel_rfl, by kernel_rfl⟩
theorem ok8 : Is Tryz.prog 8 c8 := ⟨Tryz.f8, by kernel_rfl, by kernel_rfl⟩
theorem ok9 : Is Tryz.prog 9 c9 := ⟨Tryz.f9, by kernel_rfl, by kernel_rfl⟩
theorem ok10 : Is Tryz.prog 10 c10 := ⟨Tryz.f10, by kernel_rfl, by kernel_rfl⟩
theorem ok11 : Is Tryz.prog 11 c11 := ⟨Tryz.f11, by kernel_rfl, by kernel_rfl⟩
theorem ok12 : Is Tryz.prog 12 c12 := ⟨Tryz.f12, by kernel_rfl, by kernel_rfl⟩
theorem ok13 : Is Tryz.prog 13 c13 := ⟨Tryz.f13, by kernel_rfl, by kernel_rfl⟩
theorem ok17 : Is Tryz.prog 17 c17 := ⟨Tryz.f17, by kernel_rfl, by kernel_rfl⟩
theorem ok18 : Is Tryz.prog 18 c18 := ⟨Tryz.f18, by kernel_rfl, by kernel_rfl⟩
theorem ok19 : Is Tryz.prog 19 c19 := ⟨Tryz.f19, by kernel_rfl, by kernel_rfl⟩
theorem ok20 : Is Tryz.prog 20 c20 := ⟨Tryz.f20, by kernel_rfl, by kernel_rfl⟩
theorem ok21 : Is Tryz.prog 21 c21 := ⟨Tryz.f21, by kernel_rfl, by kernel_rfl⟩
theorem ok22 : Is Tryz.prog 22 c22 := ⟨Tryz.f22, by kernel_rfl, by kernel_rfl⟩
theorem ok23 : Is Tryz.prog 23 c23 := ⟨Tryz.f23, by kernel_rfl, by kernel_rfl⟩
theorem ok24 : Is Tryz.prog 24 c24 := ⟨Tryz.f24, by kernel_rfl, by kernel_rfl⟩
theorem ok25 : Is Tryz.prog 25 c25 := ⟨Tryz.f25, by kernel_rfl, by kernel_rfl⟩
theorem ok26 : Is Tryz.prog 26 c26 := ⟨Tryz.f26, by kernel_rfl, by kernel_rfl⟩
theorem ok27 : Is Tryz.prog 27 c27 := ⟨Tryz.f27, by kernel_rfl, by kernel_rfl⟩
theorem ok28 : Is Tryz.prog 28 c28 := ⟨Tryz.f28, by kernel_rfl, by kernel_rfl⟩
theorem ok38 : Is Tryz.prog 38 c38 := ⟨Tryz.f38, by kernel_rfl, by kernel_rfl⟩
theorem ok39 : Is Tryz.prog 39 c39 := ⟨Tryz.f39, by kernel_rfl, by kernel_rfl⟩
theorem ok40 : Is Tryz.prog 40 c40 := ⟨Tryz.f40, by kernel_rfl, by kernel_rfl⟩
theorem ok41 : Is Tryz.prog 41 c41 := ⟨Tryz.f41, by kernel_rfl, by kernel_rfl⟩
theorem ok42 : Is Tryz.prog 42 c42 := ⟨Tryz.f42, by kernel_rfl, by kernel_rfl⟩
theorem ok43 : Is Tryz.prog 43 c43 := ⟨Tryz.f43, by kernel_rfl, by kernel_rfl⟩
theorem ok48 : Is Tryz.prog 48 c48 := ⟨Tryz.f48, by kernel_rfl, by kernel_rfl⟩
theorem ok49 : Is Tryz.prog 49 c49 := ⟨Tryz.f49, by kernel_rfl, by kernel_rfl⟩
theorem ok50 : Is Tryz.prog 50 c50 := ⟨Tryz.f50, by kernel_rfl, by kernel_rfl⟩
theorem ok51 : Is Tryz.prog 51 c51 := ⟨Tryz.f51, by kernel_rfl, by kernel_rfl⟩
theorem ok52 : Is Tryz.prog 52 c52 := ⟨Tryz.f52, by kernel_rfl, by kernel_rfl⟩
theorem ok53 : Is Tryz.prog 53 c53 := ⟨Tryz.f53, by kernel_rfl, by kernel_rfl⟩
theorem ok54 : Is Tryz.prog 54 c54 := ⟨Tryz.f54, by kernel_rfl, by kernel_rfl⟩
theorem ok55 : Is Tryz.prog 55 c55 := ⟨Tryz.f55, by kernel_rfl, by kernel_rfl⟩
theorem ok56 : Is Tryz.prog 56 c56 := ⟨Tryz.f56, by kernel_rfl, by kernel_rfl⟩
theorem ok57 : Is Tryz.prog 57 c57 := ⟨Tryz.f57, by kernel_rfl, by kernel_rfl⟩
theorem ok58 : Is Tryz.prog 58 c58 := ⟨Tryz.f58, by kernel_rfl, by kernel_rfl⟩
theorem ok59 : Is Tryz.prog 59 c59 := ⟨Tryz.f59, by kernel_rfl, by kernel_rfl⟩
theorem ok60 : Is Tryz.prog 60 c60 := ⟨Tryz.f60, by kernel_rfl, by kernel_rfl⟩
theorem ok61 : Is Tryz.prog 61 c61 := ⟨Tryz.f61, by kernel_rfl, by kernel_rfl⟩
theorem ok70 : Is Tryz.prog 70 c70 := ⟨Tryz.f70, by kernel_rfl, by kernel_rfl⟩
theorem ok71 : Is Tryz.prog 71 c71 := ⟨Tryz.f71, by kernel_rfl, by kernel_rfl⟩
theorem ok79 : Is Tryz.prog 79 c79 := ⟨Tryz.f79, by kernel_rfl, by kernel_rfl⟩
theorem ok82 : Is Tryz.prog 82 c82 := ⟨Tryz.f82, by kernel_rfl, by kernel_rfl⟩
theorem ok84 : Is Tryz.prog 84 c84 := ⟨Tryz.f84, by kernel_rfl, by kernel_rfl⟩
theorem ok87 : Is Tryz.prog 87 c87 := ⟨Tryz.f87, by kernel_rfl, by kernel_rfl⟩
theorem ok88 : Is Tryz.prog 88 c88 := ⟨Tryz.f88, by kernel_rfl, by kernel_rfl⟩
theorem ok89 : Is Tryz.prog 89 c89 := ⟨Tryz.f89, by kernel_rfl, by kernel_rfl⟩
theorem ok90 : Is Tryz.prog 90 c90 := ⟨Tryz.f90, by kernel_rfl, by kernel_rfl⟩
theorem ok91 : Is Tryz.prog 91 c91 := ⟨Tryz.f91, by kernel_rfl, by kernel_rfl⟩
theorem ok92 : Is Tryz.prog 92 c92 := ⟨Tryz.f92, by kernel_rfl, by kernel_rfl⟩
theorem ok93 : Is Tryz.prog 93 c93 := ⟨Tryz.f93, by kernel_rfl, by kernel_rfl⟩
theorem ok94 : Is Tryz.prog 94 c94 := ⟨Tryz.f94, by kernel_rfl, by kernel_rfl⟩
theorem ok95 : Is Tryz.prog 95 c95 := ⟨Tryz.f95, by kernel_rfl, by kernel_rfl⟩
theorem ok96 : Is Tryz.prog 96 c96 := ⟨Tryz.f96, by kernel_rfl, by kernel_rfl⟩
theorem ok97 : Is Tryz.prog 97 c97 := ⟨Tryz.f97, by kernel_rfl, by kernel_rfl⟩
theorem ok98 : Is Tryz.prog 98 c98 := ⟨Tryz.f98, by kernel_rfl, by kernel_rfl⟩
theorem ok99 : Is Tryz.prog 99 c99 := ⟨Tryz.f99, by kernel_rfl, by kernel_rfl⟩
theorem ok100 : Is Tryz.prog 100 c100 := ⟨Tryz.f100, by kernel_rfl, by kernel_rfl⟩
theorem ok112 : Is Tryz.prog 112 c112 := ⟨Tryz.f112, by kernel_rfl, by kernel_rfl⟩
theorem ok113 : Is Tryz.prog 113 c113 := ⟨Tryz.f113, by kernel_rfl, by kernel_rfl⟩
theorem ok114 : Is Tryz.prog 114 c114 := ⟨Tryz.f114, by kernel_rfl, by kernel_rfl⟩
theorem ok115 : Is Tryz.prog 115 c115 := ⟨Tryz.f115, by kernel_rfl, by kernel_rfl⟩
theorem ok120 : Is Tryz.prog 120 c120 := ⟨Tryz.f120, by kernel_rfl, by kernel_rfl⟩
theorem fns_ok : FnsOK Tryz.prog gs fns := fun _ _ h => (brk h (fun h => (brk h (fun h => (brk h (fun h => (brk h (fun h => (brk h (fun h => (brk h (fun h => (leaf h ok3)) (fun h => (leaf h ok5)))) (fun h => (brk h (fun h => (leaf h ok6)) (fun h => (leaf h ok7)))))) (fun h => (brk h (fun h => (brk h (fun h => (leaf h ok8)) (fun h => (leaf h ok9)))) (fun h => (brk h (fun h => (leaf h ok10)) (fun h => (leaf h ok11)))))))) (fun h => (brk h (fun h => (brk h (fun h => (brk h (fun h => (leaf h ok12)) (fun h => (leaf h ok13)))) (fun h => (brk h (fun h => (leaf h ok17)) (fun h => (leaf h ok18)))))) (fun h => (brk h (fun h => (brk h (fun h => (leaf h ok19)) (fun h => (leaf h ok20)))) (fun h => (brk h (fun h => (leaf h ok21)) (fun h => (leaf h ok22)))))))))) (fun h => (brk h (fun h => (brk h (fun h => (brk h (fun h => (brk h (fun h => (leaf h ok23)) (fun h => (leaf h ok24)))) (fun h => (brk h (fun h => (leaf h ok25)) (fun h => (leaf h ok26)))))) (fun h => (brk h (fun h => (brk h (fun h => (leaf h ok27)) (fun h => (leaf h ok28)))) (fun h => (brk h (fun h => (leaf h ok38)) (fun h => (leaf h ok39)))))))) (fun h => (brk h (fun h => (brk h (fun h => (brk h (fun h => (leaf h ok40)) (fun h => (leaf h ok41)))) (fun h => (brk h (fun h => (leaf h ok42)) (fun h => (leaf h ok43)))))) (fun h => (brk h (fun h => (brk h (fun h => (leaf h ok48)) (fun h => (leaf h ok49)))) (fun h => (brk h (fun h => (leaf h ok50)) (fun h => (brk h (fun h => (leaf h ok51)) (fun h => (leaf h ok52)))))))))))))) (fun h => (brk h (fun h => (brk h (fun h => (brk h (fun h => (brk h (fun h => (brk h (fun h => (leaf h ok53)) (fun h => (leaf h ok54)))) (fun h => (brk h (fun h => (leaf h ok55)) (fun h => (leaf h ok56)))))) (fun h => (brk h (fun h => (brk h (fun h => (leaf h ok57)) (fun h => (leaf h ok58)))) (fun h => (brk h (fun h => (leaf h ok59)) (fun h => (leaf h ok60)))))))) (fun h => (brk h (fun h => (brk h (fun h => (brk h (fun h => (leaf h ok61)) (fun h => (leaf h ok70)))) (fun h => (brk h (fun h => (leaf h ok71)) (fun h => (leaf h ok79)))))) (fun h => (brk h (fun h => (brk h (fun h => (leaf h ok82)) (fun h => (leaf h ok84)))) (fun h => (brk h (fun h => (leaf h ok87)) (fun h => (leaf h ok88)))))))))) (fun h => (brk h (fun h => (brk h (fun h => (brk h (fun h => (brk h (fun h => (leaf h ok89)) (fun h => (leaf h ok90)))) (fun h => (brk h (fun h => (leaf h ok91)) (fun h => (leaf h ok92)))))) (fun h => (brk h (fun h => (brk h (fun h => (leaf h ok93)) (fun h => (leaf h ok94)))) (fun h => (brk h (fun h => (leaf h ok95)) (fun h => (leaf h ok96)))))))) (fun h => (brk h (fun h => (brk h (fun h => (brk h (fun h => (leaf h ok97)) (fun h => (leaf h ok98)))) (fun h => (brk h (fun h => (leaf h ok99)) (fun h => (leaf h ok100)))))) (fun h => (brk h (fun h => (brk h (fun h => (leaf h ok112)) (fun h => (leaf h ok113)))) (fun h => (brk h (fun h => (leaf h ok114)) (fun h => (brk h (fun h => (leaf h ok115)) (fun h => (leaf h ok120)))))))))))))))
theorem mixed : Tryz.prog.follows .mixedOrders = true := by kernel_rfl
end Go.Proofs.TK
