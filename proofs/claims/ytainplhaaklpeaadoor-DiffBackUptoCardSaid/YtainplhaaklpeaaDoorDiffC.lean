/-
  The plain codes of the functions that the claim reaches. Printed by a program of this seat.
-/
import Derived.Test.YtainplhaaklpeaaDoorProg
import Derived.Test.YtainplhaaklpeaaDoorAbsT
namespace Go.Proofs.YtainplhaaklpeaaDoor
open Go.Abs
def F.seichelaw09_DiffLists : Nat := 3
def F.seichelaw09_DiffBack : Nat := 4
def F.seichelaw09_DiffJoins : Nat := 5
def F.seichelaw09_alive : Nat := 15
def F.seichelaw09_odd : Nat := 16
def F.seicheref09_Same : Nat := 17
def F.diff_Lists : Nat := 18
def F.seicheref09_Of : Nat := 19
def F.seicheref08_Same : Nat := 20
def F.path_Split : Nat := 37
def F.seicheref06_Split : Nat := 38
def F.seicheref09_Rises : Nat := 61
def F.path_Compare : Nat := 62
def F.seicheref09_At : Nat := 63
def F.seicheref06_Compare : Nat := 64
def F.seicheref06_Parts : Nat := 66
def F.strings_Split : Nat := 73
def F.slices_Compare_Lstring_string : Nat := 91
def F.cmp_Compare_string : Nat := 106
def F.cmp_isNaN_string : Nat := 115
def c_seichelaw09_DiffLists : ACode := (.seq (.region [
  ⟨(some 4), (.mv (.const (.bool false))), none, []⟩] false) (.seq (.seq (.region [
  ⟨(some 5), (.call F.seichelaw09_alive []), none, []⟩, 
  ⟨(some 6), (.un .not (.tmp 5)), none, []⟩] false) (.cond (.tmp 6) (.seq (.region [
  ⟨(some 4), (.mv (.const (.bool false))), none, []⟩] false) .ret) .skip)) (.seq (.seq (.region [
  ⟨(some 7), (.mv (.tmp 0)), none, []⟩, 
  ⟨(some 8), (.call F.seichelaw09_odd [(.tmp 7)]), none, []⟩, 
  ⟨(some 9), (.mv (.tmp 8)), none, []⟩, 
  ⟨(some 10), (.mv (.tmp 1)), (some (9, false)), []⟩, 
  ⟨(some 11), (.call F.seichelaw09_odd [(.tmp 10)]), (some (9, false)), []⟩, 
  ⟨(some 12), (.pick (.tmp 9) (.const (.bool true)) (.tmp 11)), none, []⟩] false) (.cond (.tmp 12) (.seq (.region [
  ⟨(some 4), (.mv (.const (.bool true))), none, []⟩] false) .ret) .skip)) (.seq (.region [
  ⟨(some 13), (.mv (.tmp 0)), none, []⟩, 
  ⟨(some 14), (.mv (.tmp 1)), none, []⟩, 
  ⟨(some 15), (.call F.diff_Lists [(.tmp 13), (.tmp 14)]), none, []⟩, 
  ⟨(some 16), (.mv (.tmp 0)), none, []⟩, 
  ⟨(some 17), (.mv (.tmp 1)), none, []⟩, 
  ⟨(some 18), (.call F.seicheref09_Of [(.tmp 16), (.tmp 17)]), none, []⟩, 
  ⟨(some 19), (.call F.seicheref09_Same [(.tmp 15), (.tmp 18)]), none, []⟩, 
  ⟨(some 4), (.mv (.tmp 19)), none, []⟩] false) .ret))))
theorem cf_seichelaw09_DiffLists : cFn Go.Proofs.Tryd.prog F.seichelaw09_DiffLists = some ⟨20, c_seichelaw09_DiffLists, [4]⟩ := by kernel_rfl
def c_seichelaw09_DiffBack_0 : ACode := (.seq (.region [
  ⟨(some 41), (.bin .lss .no (.tmp 40) (.tmp 39)), none, []⟩] false) (.seq (.cond (.tmp 41) .skip (.exit 0)) (.seq (.block 1 (.seq (.region [
  ⟨(some 42), (.mv (.tmp 40)), none, []⟩, 
  ⟨(some 43), (.iaddr 2 (.tmp 38) (.tmp 40)), none, []⟩, 
  ⟨(some 44), (.load (some 2) (.tmp 43)), none, []⟩, 
  ⟨(some 8), (.new [(.str []), (.int .i64 0)]), none, []⟩, 
  ⟨(some 7), (.mv (.tmp 42)), none, []⟩, 
  ⟨none, (.store 2 (.tmp 8) (.tmp 44)), none, []⟩] false) (.seq (.region [
  ⟨(some 45), (.faddr 1 (.tmp 8)), none, []⟩, 
  ⟨(some 46), (.load none (.tmp 45)), none, []⟩, 
  ⟨(some 9), (.mv (.tmp 46)), none, []⟩] false) (.seq (.seq (.region [
  ⟨(some 47), (.mv (.tmp 9)), none, []⟩, 
  ⟨(some 48), (.bin .neq .no (.tmp 47) (.const (.int .i64 3))), none, []⟩] false) (.cond (.tmp 48) (.region [
  ⟨(some 49), (.mv (.tmp 9)), none, []⟩, 
  ⟨(some 50), (.bin .sub .no (.const (.int .i64 3)) (.tmp 49)), none, []⟩, 
  ⟨(some 9), (.mv (.tmp 50)), none, []⟩] false) .skip)) (.seq (.region [
  ⟨(some 51), (.mv (.tmp 6)), none, []⟩, 
  ⟨(some 52), (.mv (.tmp 7)), none, []⟩, 
  ⟨(some 53), (.iaddr 2 (.tmp 51) (.tmp 52)), none, []⟩, 
  ⟨(some 54), (.load (some 2) (.tmp 53)), none, []⟩, 
  ⟨(some 55), (.faddr 0 (.tmp 8)), none, []⟩, 
  ⟨(some 56), (.load none (.tmp 55)), none, []⟩, 
  ⟨(some 57), (.mv (.tmp 9)), none, []⟩, 
  ⟨(some 58), (.build [(.str []), (.int .i64 0)] [(0, (1, (.tmp 56))), (1, (1, (.tmp 57)))]), none, []⟩, 
  ⟨(some 59), (.bin .neq (.flat [(none, true), ((some .i64), true)]) (.tmp 54) (.tmp 58)), none, []⟩] true) (.cond (.tmp 59) (.seq (.region [
  ⟨(some 4), (.mv (.const (.bool false))), none, []⟩] false) .ret) .skip)))))) (.region [
  ⟨(some 60), (.bin .add .no (.tmp 40) (.const (.int .i64 1))), none, []⟩, 
  ⟨(some 40), (.mv (.tmp 60)), none, []⟩] false))))
def c_seichelaw09_DiffBack : ACode := (.seq (.region [
  ⟨(some 4), (.mv (.const (.bool false))), none, []⟩] false) (.seq (.seq (.region [
  ⟨(some 10), (.call F.seichelaw09_alive []), none, []⟩, 
  ⟨(some 11), (.un .not (.tmp 10)), none, []⟩] false) (.cond (.tmp 11) (.seq (.region [
  ⟨(some 4), (.mv (.const (.bool false))), none, []⟩] false) .ret) .skip)) (.seq (.seq (.region [
  ⟨(some 12), (.mv (.tmp 0)), none, []⟩, 
  ⟨(some 13), (.call F.seichelaw09_odd [(.tmp 12)]), none, []⟩, 
  ⟨(some 14), (.mv (.tmp 13)), none, []⟩, 
  ⟨(some 15), (.mv (.tmp 1)), (some (14, false)), []⟩, 
  ⟨(some 16), (.call F.seichelaw09_odd [(.tmp 15)]), (some (14, false)), []⟩, 
  ⟨(some 17), (.pick (.tmp 14) (.const (.bool true)) (.tmp 16)), none, []⟩] false) (.cond (.tmp 17) (.seq (.region [
  ⟨(some 4), (.mv (.const (.bool true))), none, []⟩] false) .ret) .skip)) (.seq (.region [
  ⟨(some 18), (.mv (.tmp 0)), none, []⟩, 
  ⟨(some 19), (.mv (.tmp 1)), none, []⟩, 
  ⟨(some 20), (.call F.diff_Lists [(.tmp 18), (.tmp 19)]), none, []⟩, 
  ⟨(some 21), (.mv (.tmp 1)), none, []⟩, 
  ⟨(some 22), (.mv (.tmp 0)), none, []⟩, 
  ⟨(some 23), (.call F.diff_Lists [(.tmp 21), (.tmp 22)]), none, []⟩, 
  ⟨(some 5), (.mvo 20), none, []⟩, 
  ⟨(some 6), (.mvo 23), none, []⟩] false) (.seq (.seq (.region [
  ⟨(some 24), (.mv (.tmp 5)), none, []⟩, 
  ⟨(some 25), (.len false (.tmp 24)), none, []⟩, 
  ⟨(some 26), (.mv (.tmp 6)), none, []⟩, 
  ⟨(some 27), (.len false (.tmp 26)), none, []⟩, 
  ⟨(some 28), (.bin .neq .no (.tmp 25) (.tmp 27)), none, []⟩, 
  ⟨(some 29), (.mv (.tmp 28)), none, []⟩, 
  ⟨(some 30), (.mv (.tmp 5)), (some (29, false)), []⟩, 
  ⟨(some 31), (.len false (.tmp 30)), (some (29, false)), []⟩, 
  ⟨(some 32), (.bin .eql .no (.tmp 31) (.const (.int .i64 0))), (some (29, false)), []⟩, 
  ⟨(some 33), (.mv (.tmp 0)), (some (29, false)), []⟩, 
  ⟨(some 34), (.mv (.tmp 1)), (some (29, false)), []⟩, 
  ⟨(some 35), (.call F.seicheref08_Same [(.tmp 33), (.tmp 34)]), (some (29, false)), []⟩, 
  ⟨(some 36), (.bin .neq .bool (.tmp 32) (.tmp 35)), (some (29, false)), []⟩, 
  ⟨(some 37), (.pick (.tmp 29) (.const (.bool true)) (.tmp 36)), none, []⟩] false) (.cond (.tmp 37) (.seq (.region [
  ⟨(some 4), (.mv (.const (.bool false))), none, []⟩] false) .ret) .skip)) (.seq (.seq (.region [
  ⟨(some 38), (.mv (.tmp 5)), none, []⟩, 
  ⟨(some 39), (.len false (.tmp 38)), none, []⟩, 
  ⟨(some 40), (.mv (.const (.int .i64 0))), none, []⟩] false) (.block 0 (.loop c_seichelaw09_DiffBack_0))) (.seq (.region [
  ⟨(some 4), (.mv (.const (.bool true))), none, []⟩] false) .ret)))))))
theorem cf_seichelaw09_DiffBack : cFn Go.Proofs.Tryd.prog F.seichelaw09_DiffBack = some ⟨61, c_seichelaw09_DiffBack, [4]⟩ := by kernel_rfl
def c_seichelaw09_DiffJoins_0 : ACode := (.seq (.region [
  ⟨(some 43), (.bin .lss .no (.tmp 42) (.tmp 41)), none, []⟩] false) (.seq (.cond (.tmp 43) .skip (.exit 2)) (.seq (.block 3 (.seq (.region [
  ⟨(some 44), (.iaddr 2 (.tmp 40) (.tmp 42)), none, []⟩, 
  ⟨(some 45), (.load (some 2) (.tmp 44)), none, []⟩, 
  ⟨(some 12), (.new [(.str []), (.int .i64 0)]), none, []⟩, 
  ⟨none, (.store 2 (.tmp 12) (.tmp 45)), none, []⟩] false) (.region [
  ⟨(some 46), (.mv (.tmp 10)), none, []⟩, 
  ⟨(some 47), (.mv (.tmp 46)), none, []⟩, 
  ⟨(some 48), (.faddr 0 (.tmp 9)), (some (47, false)), []⟩, 
  ⟨(some 49), (.load none (.tmp 48)), (some (47, false)), []⟩, 
  ⟨(some 50), (.faddr 0 (.tmp 12)), (some (47, false)), []⟩, 
  ⟨(some 51), (.load none (.tmp 50)), (some (47, false)), []⟩, 
  ⟨(some 52), (.bin .eql .no (.tmp 49) (.tmp 51)), (some (47, false)), []⟩, 
  ⟨(some 53), (.pick (.tmp 47) (.const (.bool true)) (.tmp 52)), none, []⟩, 
  ⟨(some 10), (.mv (.tmp 53)), none, []⟩] false))) (.region [
  ⟨(some 54), (.bin .add .no (.tmp 42) (.const (.int .i64 1))), none, []⟩, 
  ⟨(some 42), (.mv (.tmp 54)), none, []⟩] false))))
def c_seichelaw09_DiffJoins_1 : ACode := (.seq (.region [
  ⟨(some 37), (.bin .lss .no (.tmp 36) (.tmp 35)), none, []⟩] false) (.seq (.cond (.tmp 37) .skip (.exit 0)) (.seq (.block 1 (.seq (.region [
  ⟨(some 38), (.iaddr 2 (.tmp 34) (.tmp 36)), none, []⟩, 
  ⟨(some 39), (.load (some 2) (.tmp 38)), none, []⟩, 
  ⟨(some 9), (.new [(.str []), (.int .i64 0)]), none, []⟩, 
  ⟨none, (.store 2 (.tmp 9) (.tmp 39)), none, []⟩] false) (.seq (.region [
  ⟨(some 10), (.mv (.const (.bool false))), none, []⟩] false) (.seq (.seq (.region [
  ⟨(some 40), (.mv (.tmp 7)), none, []⟩, 
  ⟨(some 41), (.len false (.tmp 40)), none, []⟩, 
  ⟨(some 42), (.mv (.const (.int .i64 0))), none, []⟩] false) (.block 2 (.loop c_seichelaw09_DiffJoins_0))) (.seq (.region [
  ⟨(some 55), (.mv (.tmp 10)), none, []⟩, 
  ⟨(some 56), (.un .not (.tmp 55)), none, []⟩] false) (.cond (.tmp 56) (.seq (.region [
  ⟨(some 6), (.mv (.const (.bool false))), none, []⟩] false) .ret) .skip)))))) (.region [
  ⟨(some 57), (.bin .add .no (.tmp 36) (.const (.int .i64 1))), none, []⟩, 
  ⟨(some 36), (.mv (.tmp 57)), none, []⟩] false))))
def c_seichelaw09_DiffJoins : ACode := (.seq (.region [
  ⟨(some 6), (.mv (.const (.bool false))), none, []⟩] false) (.seq (.seq (.region [
  ⟨(some 13), (.call F.seichelaw09_alive []), none, []⟩, 
  ⟨(some 14), (.un .not (.tmp 13)), none, []⟩] false) (.cond (.tmp 14) (.seq (.region [
  ⟨(some 6), (.mv (.const (.bool false))), none, []⟩] false) .ret) .skip)) (.seq (.seq (.region [
  ⟨(some 15), (.mv (.tmp 0)), none, []⟩, 
  ⟨(some 16), (.call F.seichelaw09_odd [(.tmp 15)]), none, []⟩, 
  ⟨(some 17), (.mv (.tmp 16)), none, []⟩, 
  ⟨(some 18), (.mv (.tmp 1)), (some (17, false)), []⟩, 
  ⟨(some 19), (.call F.seichelaw09_odd [(.tmp 18)]), (some (17, false)), []⟩, 
  ⟨(some 20), (.pick (.tmp 17) (.const (.bool true)) (.tmp 19)), none, []⟩, 
  ⟨(some 21), (.mv (.tmp 20)), none, []⟩, 
  ⟨(some 22), (.mv (.tmp 2)), (some (21, false)), []⟩, 
  ⟨(some 23), (.call F.seichelaw09_odd [(.tmp 22)]), (some (21, false)), []⟩, 
  ⟨(some 24), (.pick (.tmp 21) (.const (.bool true)) (.tmp 23)), none, []⟩] false) (.cond (.tmp 24) (.seq (.region [
  ⟨(some 6), (.mv (.const (.bool true))), none, []⟩] false) .ret) .skip)) (.seq (.region [
  ⟨(some 25), (.mv (.tmp 0)), none, []⟩, 
  ⟨(some 26), (.mv (.tmp 1)), none, []⟩, 
  ⟨(some 27), (.call F.diff_Lists [(.tmp 25), (.tmp 26)]), none, []⟩, 
  ⟨(some 28), (.mv (.tmp 1)), none, []⟩, 
  ⟨(some 29), (.mv (.tmp 2)), none, []⟩, 
  ⟨(some 30), (.call F.diff_Lists [(.tmp 28), (.tmp 29)]), none, []⟩, 
  ⟨(some 31), (.app 2 (.tmp 27) (.tmp 30)), none, []⟩, 
  ⟨(some 7), (.mvo 31), none, []⟩] false) (.seq (.seq (.region [
  ⟨(some 32), (.mv (.tmp 0)), none, []⟩, 
  ⟨(some 33), (.mv (.tmp 2)), none, []⟩, 
  ⟨(some 34), (.call F.diff_Lists [(.tmp 32), (.tmp 33)]), none, []⟩, 
  ⟨(some 35), (.len false (.tmp 34)), none, []⟩, 
  ⟨(some 36), (.mv (.const (.int .i64 0))), none, []⟩] false) (.block 0 (.loop c_seichelaw09_DiffJoins_1))) (.seq (.region [
  ⟨(some 6), (.mv (.const (.bool true))), none, []⟩] false) .ret))))))
theorem cf_seichelaw09_DiffJoins : cFn Go.Proofs.Tryd.prog F.seichelaw09_DiffJoins = some ⟨58, c_seichelaw09_DiffJoins, [6]⟩ := by kernel_rfl
def c_seichelaw09_alive : ACode := (.seq (.region [
  ⟨(some 0), (.mv (.const (.bool false))), none, []⟩] false) (.seq (.region [
  ⟨(some 2), (.build ((.str []) :: repl 32 (.int .u8 0)) [(0, (1, (.const (.str [97]))))]), none, []⟩, 
  ⟨(some 3), (.bsl 33 [(.tmp 2)]), none, []⟩, 
  ⟨(some 4), (.build ((.str []) :: repl 32 (.int .u8 0)) [(0, (1, (.const (.str [98]))))]), none, []⟩, 
  ⟨(some 5), (.bsl 33 [(.tmp 4)]), none, []⟩, 
  ⟨(some 6), (.call F.diff_Lists [(.tmp 3), (.tmp 5)]), none, []⟩, 
  ⟨(some 1), (.mvo 6), none, []⟩] false) (.seq (.region [
  ⟨(some 7), (.mv (.tmp 1)), none, []⟩, 
  ⟨(some 8), (.len false (.tmp 7)), none, []⟩, 
  ⟨(some 9), (.bin .eql .no (.tmp 8) (.const (.int .i64 2))), none, []⟩, 
  ⟨(some 10), (.mv (.tmp 9)), none, []⟩, 
  ⟨(some 11), (.mv (.tmp 1)), (some (10, true)), []⟩, 
  ⟨(some 12), (.iaddr 2 (.tmp 11) (.const (.int .i64 0))), (some (10, true)), []⟩, 
  ⟨(some 13), (.load (some 2) (.tmp 12)), (some (10, true)), []⟩, 
  ⟨(some 14), (.build [(.str []), (.int .i64 0)] [(0, (1, (.const (.str [97])))), (1, (1, (.const (.int .i64 2))))]), (some (10, true)), []⟩, 
  ⟨(some 15), (.bin .eql (.flat [(none, true), ((some .i64), true)]) (.tmp 13) (.tmp 14)), (some (10, true)), []⟩, 
  ⟨(some 16), (.pick (.tmp 10) (.tmp 15) (.const (.bool false))), none, []⟩, 
  ⟨(some 17), (.mv (.tmp 16)), none, []⟩, 
  ⟨(some 18), (.mv (.tmp 1)), (some (17, true)), []⟩, 
  ⟨(some 19), (.iaddr 2 (.tmp 18) (.const (.int .i64 1))), (some (17, true)), []⟩, 
  ⟨(some 20), (.load (some 2) (.tmp 19)), (some (17, true)), []⟩, 
  ⟨(some 21), (.build [(.str []), (.int .i64 0)] [(0, (1, (.const (.str [98])))), (1, (1, (.const (.int .i64 1))))]), (some (17, true)), []⟩, 
  ⟨(some 22), (.bin .eql (.flat [(none, true), ((some .i64), true)]) (.tmp 20) (.tmp 21)), (some (17, true)), []⟩, 
  ⟨(some 23), (.pick (.tmp 17) (.tmp 22) (.const (.bool false))), none, []⟩, 
  ⟨(some 0), (.mv (.tmp 23)), none, []⟩] false) .ret)))
theorem cf_seichelaw09_alive : cFn Go.Proofs.Tryd.prog F.seichelaw09_alive = some ⟨24, c_seichelaw09_alive, [0]⟩ := by kernel_rfl
def c_seichelaw09_odd_0 : ACode := (.seq (.region [
  ⟨(some 9), (.bin .lss .no (.tmp 8) (.tmp 7)), none, []⟩] false) (.seq (.cond (.tmp 9) .skip (.exit 0)) (.seq (.block 1 (.seq (.region [
  ⟨(some 10), (.iaddr 33 (.tmp 6) (.tmp 8)), none, []⟩, 
  ⟨(some 11), (.load (some 33) (.tmp 10)), none, []⟩, 
  ⟨(some 5), (.new ((.str []) :: repl 32 (.int .u8 0))), none, []⟩, 
  ⟨none, (.store 33 (.tmp 5) (.tmp 11)), none, []⟩] false) (.seq (.region [
  ⟨(some 12), (.mv (.tmp 3)), none, []⟩, 
  ⟨(some 13), (.faddr 0 (.tmp 5)), none, []⟩, 
  ⟨(some 14), (.load none (.tmp 13)), none, []⟩, 
  ⟨(some 15), (.len true (.tmp 14)), none, []⟩, 
  ⟨(some 16), (.bin .add .no (.tmp 12) (.tmp 15)), none, []⟩, 
  ⟨(some 3), (.mv (.tmp 16)), none, []⟩] false) (.seq (.region [
  ⟨(some 17), (.mv (.tmp 3)), none, []⟩, 
  ⟨(some 18), (.bin .gtr .no (.tmp 17) (.const (.int .i64 4096))), none, []⟩] false) (.cond (.tmp 18) (.seq (.region [
  ⟨(some 2), (.mv (.const (.bool true))), none, []⟩] false) .ret) .skip))))) (.region [
  ⟨(some 19), (.bin .add .no (.tmp 8) (.const (.int .i64 1))), none, []⟩, 
  ⟨(some 8), (.mv (.tmp 19)), none, []⟩] false))))
def c_seichelaw09_odd : ACode := (.seq (.region [
  ⟨(some 2), (.mv (.const (.bool false))), none, []⟩] false) (.seq (.region [
  ⟨(some 3), (.mv (.const (.int .i64 0))), none, []⟩] false) (.seq (.seq (.region [
  ⟨(some 6), (.mv (.tmp 0)), none, []⟩, 
  ⟨(some 7), (.len false (.tmp 6)), none, []⟩, 
  ⟨(some 8), (.mv (.const (.int .i64 0))), none, []⟩] false) (.block 0 (.loop c_seichelaw09_odd_0))) (.seq (.region [
  ⟨(some 20), (.mv (.tmp 0)), none, []⟩, 
  ⟨(some 21), (.len false (.tmp 20)), none, []⟩, 
  ⟨(some 22), (.bin .gtr .no (.tmp 21) (.const (.int .i64 60))), none, []⟩, 
  ⟨(some 23), (.mv (.tmp 22)), none, []⟩, 
  ⟨(some 24), (.mv (.tmp 0)), (some (23, false)), []⟩, 
  ⟨(some 25), (.call F.seicheref09_Rises [(.tmp 24)]), (some (23, false)), []⟩, 
  ⟨(some 26), (.un .not (.tmp 25)), (some (23, false)), []⟩, 
  ⟨(some 27), (.pick (.tmp 23) (.const (.bool true)) (.tmp 26)), none, []⟩, 
  ⟨(some 2), (.mv (.tmp 27)), none, []⟩] false) .ret))))
theorem cf_seichelaw09_odd : cFn Go.Proofs.Tryd.prog F.seichelaw09_odd = some ⟨28, c_seichelaw09_odd, [2]⟩ := by kernel_rfl
def c_seicheref09_Same_0 : ACode := (.seq (.region [
  ⟨(some 14), (.bin .lss .no (.tmp 13) (.tmp 12)), none, []⟩] false) (.seq (.cond (.tmp 14) .skip (.exit 0)) (.seq (.block 1 (.seq (.region [
  ⟨(some 15), (.mv (.tmp 13)), none, []⟩, 
  ⟨(some 5), (.mv (.tmp 15)), none, []⟩] false) (.seq (.region [
  ⟨(some 16), (.mv (.tmp 0)), none, []⟩, 
  ⟨(some 17), (.mv (.tmp 5)), none, []⟩, 
  ⟨(some 18), (.iaddr 2 (.tmp 16) (.tmp 17)), none, []⟩, 
  ⟨(some 19), (.load (some 2) (.tmp 18)), none, []⟩, 
  ⟨(some 20), (.mv (.tmp 1)), none, []⟩, 
  ⟨(some 21), (.mv (.tmp 5)), none, []⟩, 
  ⟨(some 22), (.iaddr 2 (.tmp 20) (.tmp 21)), none, []⟩, 
  ⟨(some 23), (.load (some 2) (.tmp 22)), none, []⟩, 
  ⟨(some 24), (.bin .neq (.flat [(none, true), ((some .i64), true)]) (.tmp 19) (.tmp 23)), none, []⟩] true) (.cond (.tmp 24) (.seq (.region [
  ⟨(some 4), (.mv (.const (.bool false))), none, []⟩] false) .ret) .skip)))) (.region [
  ⟨(some 25), (.bin .add .no (.tmp 13) (.const (.int .i64 1))), none, []⟩, 
  ⟨(some 13), (.mv (.tmp 25)), none, []⟩] false))))
def c_seicheref09_Same : ACode := (.seq (.region [
  ⟨(some 4), (.mv (.const (.bool false))), none, []⟩] false) (.seq (.seq (.region [
  ⟨(some 6), (.mv (.tmp 0)), none, []⟩, 
  ⟨(some 7), (.len false (.tmp 6)), none, []⟩, 
  ⟨(some 8), (.mv (.tmp 1)), none, []⟩, 
  ⟨(some 9), (.len false (.tmp 8)), none, []⟩, 
  ⟨(some 10), (.bin .neq .no (.tmp 7) (.tmp 9)), none, []⟩] false) (.cond (.tmp 10) (.seq (.region [
  ⟨(some 4), (.mv (.const (.bool false))), none, []⟩] false) .ret) .skip)) (.seq (.seq (.region [
  ⟨(some 11), (.mv (.tmp 0)), none, []⟩, 
  ⟨(some 12), (.len false (.tmp 11)), none, []⟩, 
  ⟨(some 13), (.mv (.const (.int .i64 0))), none, []⟩] false) (.block 0 (.loop c_seicheref09_Same_0))) (.seq (.region [
  ⟨(some 4), (.mv (.const (.bool true))), none, []⟩] false) .ret))))
theorem cf_seicheref09_Same : cFn Go.Proofs.Tryd.prog F.seicheref09_Same = some ⟨26, c_seicheref09_Same, [4]⟩ := by kernel_rfl
def c_diff_Lists_0 : ACode := (.seq (.seq (.region [
  ⟨(some 7), (.mv (.tmp 0)), none, []⟩, 
  ⟨(some 8), (.len false (.tmp 7)), none, []⟩, 
  ⟨(some 9), (.bin .gtr .no (.tmp 8) (.const (.int .i64 0))), none, []⟩, 
  ⟨(some 10), (.mv (.tmp 9)), none, []⟩, 
  ⟨(some 11), (.mv (.tmp 1)), (some (10, false)), []⟩, 
  ⟨(some 12), (.len false (.tmp 11)), (some (10, false)), []⟩, 
  ⟨(some 13), (.bin .gtr .no (.tmp 12) (.const (.int .i64 0))), (some (10, false)), []⟩, 
  ⟨(some 14), (.pick (.tmp 10) (.const (.bool true)) (.tmp 13)), none, []⟩] false) (.cond (.tmp 14) .skip (.exit 0))) (.block 1 (.seq (.region [
  ⟨(some 6), (.mv (.const (.int .i64 0))), none, []⟩] false) (.seq (.block 2 (.seq (.region [
  ⟨(some 25), (.mv (.tmp 0)), none, []⟩, 
  ⟨(some 26), (.len false (.tmp 25)), none, []⟩, 
  ⟨(some 27), (.bin .eql .no (.tmp 26) (.const (.int .i64 0))), none, []⟩, 
  ⟨(some 24), (.mv (.tmp 27)), none, []⟩] false) (.cond (.tmp 24) (.region [
  ⟨(some 6), (.mv (.const (.int .i64 1))), none, []⟩] false) (.seq (.region [
  ⟨(some 29), (.mv (.tmp 1)), none, []⟩, 
  ⟨(some 30), (.len false (.tmp 29)), none, []⟩, 
  ⟨(some 31), (.bin .eql .no (.tmp 30) (.const (.int .i64 0))), none, []⟩, 
  ⟨(some 28), (.mv (.tmp 31)), none, []⟩] false) (.cond (.tmp 28) (.region [
  ⟨(some 6), (.mv (.const (.int .i64 (-1)))), none, []⟩] false) (.region [
  ⟨(some 15), (.mv (.tmp 0)), none, []⟩, 
  ⟨(some 16), (.iaddr 33 (.tmp 15) (.const (.int .i64 0))), none, []⟩, 
  ⟨(some 17), (.faddr 0 (.tmp 16)), none, []⟩, 
  ⟨(some 18), (.load none (.tmp 17)), none, []⟩, 
  ⟨(some 19), (.mv (.tmp 1)), none, []⟩, 
  ⟨(some 20), (.iaddr 33 (.tmp 19) (.const (.int .i64 0))), none, []⟩, 
  ⟨(some 21), (.faddr 0 (.tmp 20)), none, []⟩, 
  ⟨(some 22), (.load none (.tmp 21)), none, []⟩, 
  ⟨(some 23), (.call F.path_Compare [(.tmp 18), (.tmp 22)]), none, []⟩, 
  ⟨(some 6), (.mv (.tmp 23)), none, []⟩] true)))))) (.block 3 (.seq (.region [
  ⟨(some 54), (.mv (.tmp 6)), none, []⟩, 
  ⟨(some 55), (.bin .lss .no (.tmp 54) (.const (.int .i64 0))), none, []⟩, 
  ⟨(some 53), (.mv (.tmp 55)), none, []⟩] false) (.cond (.tmp 53) (.region [
  ⟨(some 56), (.mvo 5), none, []⟩, 
  ⟨(some 57), (.mv (.tmp 0)), none, []⟩, 
  ⟨(some 58), (.iaddr 33 (.tmp 57) (.const (.int .i64 0))), none, []⟩, 
  ⟨(some 59), (.faddr 0 (.tmp 58)), none, []⟩, 
  ⟨(some 60), (.load none (.tmp 59)), none, []⟩, 
  ⟨(some 61), (.build [(.str []), (.int .i64 0)] [(0, (1, (.tmp 60))), (1, (1, (.const (.int .i64 2))))]), none, []⟩, 
  ⟨(some 62), (.bsl 2 [(.tmp 61)]), none, []⟩, 
  ⟨(some 63), (.app 2 (.tmp 56) (.tmp 62)), none, []⟩, 
  ⟨(some 64), (.mv (.tmp 0)), none, []⟩, 
  ⟨(some 65), (.slc 33 (.tmp 64) (some (.const (.int .i64 1))) none none), none, []⟩, 
  ⟨(some 5), (.mvo 63), none, []⟩, 
  ⟨(some 0), (.mvo 65), none, []⟩] true) (.seq (.region [
  ⟨(some 67), (.mv (.tmp 6)), none, []⟩, 
  ⟨(some 68), (.bin .gtr .no (.tmp 67) (.const (.int .i64 0))), none, []⟩, 
  ⟨(some 66), (.mv (.tmp 68)), none, []⟩] false) (.cond (.tmp 66) (.region [
  ⟨(some 69), (.mvo 5), none, []⟩, 
  ⟨(some 70), (.mv (.tmp 1)), none, []⟩, 
  ⟨(some 71), (.iaddr 33 (.tmp 70) (.const (.int .i64 0))), none, []⟩, 
  ⟨(some 72), (.faddr 0 (.tmp 71)), none, []⟩, 
  ⟨(some 73), (.load none (.tmp 72)), none, []⟩, 
  ⟨(some 74), (.build [(.str []), (.int .i64 0)] [(0, (1, (.tmp 73))), (1, (1, (.const (.int .i64 1))))]), none, []⟩, 
  ⟨(some 75), (.bsl 2 [(.tmp 74)]), none, []⟩, 
  ⟨(some 76), (.app 2 (.tmp 69) (.tmp 75)), none, []⟩, 
  ⟨(some 77), (.mv (.tmp 1)), none, []⟩, 
  ⟨(some 78), (.slc 33 (.tmp 77) (some (.const (.int .i64 1))) none none), none, []⟩, 
  ⟨(some 5), (.mvo 76), none, []⟩, 
  ⟨(some 1), (.mvo 78), none, []⟩] true) (.seq (.seq (.region [
  ⟨(some 32), (.mv (.tmp 0)), none, []⟩, 
  ⟨(some 33), (.iaddr 33 (.tmp 32) (.const (.int .i64 0))), none, []⟩, 
  ⟨(some 34), (.faddr 1 (.tmp 33)), none, []⟩, 
  ⟨(some 35), (.load (some 32) (.tmp 34)), none, []⟩, 
  ⟨(some 36), (.mv (.tmp 1)), none, []⟩, 
  ⟨(some 37), (.iaddr 33 (.tmp 36) (.const (.int .i64 0))), none, []⟩, 
  ⟨(some 38), (.faddr 1 (.tmp 37)), none, []⟩, 
  ⟨(some 39), (.load (some 32) (.tmp 38)), none, []⟩, 
  ⟨(some 40), (.bin .neq (.flat (repl 32 ((some .u8), true))) (.tmp 35) (.tmp 39)), none, []⟩] true) (.cond (.tmp 40) (.region [
  ⟨(some 41), (.mvo 5), none, []⟩, 
  ⟨(some 42), (.mv (.tmp 0)), none, []⟩, 
  ⟨(some 43), (.iaddr 33 (.tmp 42) (.const (.int .i64 0))), none, []⟩, 
  ⟨(some 44), (.faddr 0 (.tmp 43)), none, []⟩, 
  ⟨(some 45), (.load none (.tmp 44)), none, []⟩, 
  ⟨(some 46), (.build [(.str []), (.int .i64 0)] [(0, (1, (.tmp 45))), (1, (1, (.const (.int .i64 3))))]), none, []⟩, 
  ⟨(some 47), (.bsl 2 [(.tmp 46)]), none, []⟩, 
  ⟨(some 48), (.app 2 (.tmp 41) (.tmp 47)), none, []⟩, 
  ⟨(some 5), (.mvo 48), none, []⟩] false) .skip)) (.region [
  ⟨(some 49), (.mv (.tmp 0)), none, []⟩, 
  ⟨(some 50), (.slc 33 (.tmp 49) (some (.const (.int .i64 1))) none none), none, []⟩, 
  ⟨(some 51), (.mv (.tmp 1)), none, []⟩, 
  ⟨(some 52), (.slc 33 (.tmp 51) (some (.const (.int .i64 1))) none none), none, []⟩, 
  ⟨(some 0), (.mvo 50), none, []⟩, 
  ⟨(some 1), (.mvo 52), none, []⟩] true)))))))))))
def c_diff_Lists : ACode := (.seq (.region [
  ⟨(some 4), (.mv (.const (.sl true 2 []))), none, []⟩] false) (.seq (.region [
  ⟨(some 5), (.mv (.const (.sl true 2 []))), none, []⟩] false) (.seq (.block 0 (.loop c_diff_Lists_0)) (.seq (.region [
  ⟨(some 79), (.mvo 5), none, []⟩, 
  ⟨(some 4), (.mvo 79), none, []⟩] false) .ret))))
theorem cf_diff_Lists : cFn Go.Proofs.Tryd.prog F.diff_Lists = some ⟨80, c_diff_Lists, [4]⟩ := by kernel_rfl
def c_seicheref09_Of_0 : ACode := (.seq (.region [
  ⟨(some 15), (.bin .lss .no (.tmp 14) (.tmp 13)), none, []⟩] false) (.seq (.cond (.tmp 15) .skip (.exit 0)) (.seq (.block 1 (.seq (.region [
  ⟨(some 16), (.iaddr 33 (.tmp 12) (.tmp 14)), none, []⟩, 
  ⟨(some 17), (.load (some 33) (.tmp 16)), none, []⟩, 
  ⟨(some 7), (.new ((.str []) :: repl 32 (.int .u8 0))), none, []⟩, 
  ⟨none, (.store 33 (.tmp 7) (.tmp 17)), none, []⟩] false) (.seq (.region [
  ⟨(some 18), (.mv (.tmp 1)), none, []⟩, 
  ⟨(some 19), (.faddr 0 (.tmp 7)), none, []⟩, 
  ⟨(some 20), (.load none (.tmp 19)), none, []⟩, 
  ⟨(some 21), (.call F.seicheref09_At [(.tmp 18), (.tmp 20)]), none, []⟩, 
  ⟨(some 8), (.mv (.tmp 21)), none, []⟩] false) (.seq (.region [
  ⟨(some 22), (.mv (.tmp 8)), none, []⟩, 
  ⟨(some 23), (.bin .lss .no (.tmp 22) (.const (.int .i64 0))), none, []⟩] false) (.cond (.tmp 23) (.region [
  ⟨(some 24), (.mvo 5), none, []⟩, 
  ⟨(some 25), (.faddr 0 (.tmp 7)), none, []⟩, 
  ⟨(some 26), (.load none (.tmp 25)), none, []⟩, 
  ⟨(some 27), (.build [(.str []), (.int .i64 0)] [(0, (1, (.tmp 26))), (1, (1, (.const (.int .i64 2))))]), none, []⟩, 
  ⟨(some 28), (.bsl 2 [(.tmp 27)]), none, []⟩, 
  ⟨(some 29), (.app 2 (.tmp 24) (.tmp 28)), none, []⟩, 
  ⟨(some 5), (.mvo 29), none, []⟩] false) (.seq (.region [
  ⟨(some 30), (.mv (.tmp 1)), none, []⟩, 
  ⟨(some 31), (.mv (.tmp 8)), none, []⟩, 
  ⟨(some 32), (.iaddr 33 (.tmp 30) (.tmp 31)), none, []⟩, 
  ⟨(some 33), (.faddr 1 (.tmp 32)), none, []⟩, 
  ⟨(some 34), (.load (some 32) (.tmp 33)), none, []⟩, 
  ⟨(some 35), (.faddr 1 (.tmp 7)), none, []⟩, 
  ⟨(some 36), (.load (some 32) (.tmp 35)), none, []⟩, 
  ⟨(some 37), (.bin .neq (.flat (repl 32 ((some .u8), true))) (.tmp 34) (.tmp 36)), none, []⟩] true) (.cond (.tmp 37) (.region [
  ⟨(some 38), (.mvo 5), none, []⟩, 
  ⟨(some 39), (.faddr 0 (.tmp 7)), none, []⟩, 
  ⟨(some 40), (.load none (.tmp 39)), none, []⟩, 
  ⟨(some 41), (.build [(.str []), (.int .i64 0)] [(0, (1, (.tmp 40))), (1, (1, (.const (.int .i64 3))))]), none, []⟩, 
  ⟨(some 42), (.bsl 2 [(.tmp 41)]), none, []⟩, 
  ⟨(some 43), (.app 2 (.tmp 38) (.tmp 42)), none, []⟩, 
  ⟨(some 5), (.mvo 43), none, []⟩] false) .skip))))))) (.region [
  ⟨(some 44), (.bin .add .no (.tmp 14) (.const (.int .i64 1))), none, []⟩, 
  ⟨(some 14), (.mv (.tmp 44)), none, []⟩] false))))
def c_seicheref09_Of_1 : ACode := (.seq (.seq (.region [
  ⟨(some 58), (.mv (.tmp 11)), none, []⟩, 
  ⟨(some 59), (.bin .gtr .no (.tmp 58) (.const (.int .i64 0))), none, []⟩, 
  ⟨(some 60), (.mv (.tmp 59)), none, []⟩, 
  ⟨(some 61), (.mv (.tmp 5)), (some (60, true)), []⟩, 
  ⟨(some 62), (.mv (.tmp 11)), (some (60, true)), []⟩, 
  ⟨(some 63), (.bin .sub .no (.tmp 62) (.const (.int .i64 1))), (some (60, true)), []⟩, 
  ⟨(some 64), (.iaddr 2 (.tmp 61) (.tmp 63)), (some (60, true)), []⟩, 
  ⟨(some 65), (.faddr 0 (.tmp 64)), (some (60, true)), []⟩, 
  ⟨(some 66), (.load none (.tmp 65)), (some (60, true)), []⟩, 
  ⟨(some 67), (.faddr 0 (.tmp 10)), (some (60, true)), []⟩, 
  ⟨(some 68), (.load none (.tmp 67)), (some (60, true)), []⟩, 
  ⟨(some 69), (.call F.seicheref06_Compare [(.tmp 66), (.tmp 68)]), (some (60, true)), []⟩, 
  ⟨(some 70), (.bin .gtr .no (.tmp 69) (.const (.int .i64 0))), (some (60, true)), []⟩, 
  ⟨(some 71), (.pick (.tmp 60) (.tmp 70) (.const (.bool false))), none, []⟩] true) (.cond (.tmp 71) .skip (.exit 4))) (.block 5 (.region [
  ⟨(some 72), (.mv (.tmp 11)), none, []⟩, 
  ⟨(some 73), (.bin .sub .no (.tmp 72) (.const (.int .i64 1))), none, []⟩, 
  ⟨(some 11), (.mv (.tmp 73)), none, []⟩] false)))
def c_seicheref09_Of_2 : ACode := (.seq (.region [
  ⟨(some 48), (.bin .lss .no (.tmp 47) (.tmp 46)), none, []⟩] false) (.seq (.cond (.tmp 48) .skip (.exit 2)) (.seq (.block 3 (.seq (.region [
  ⟨(some 49), (.iaddr 33 (.tmp 45) (.tmp 47)), none, []⟩, 
  ⟨(some 50), (.load (some 33) (.tmp 49)), none, []⟩, 
  ⟨(some 10), (.new ((.str []) :: repl 32 (.int .u8 0))), none, []⟩, 
  ⟨none, (.store 33 (.tmp 10) (.tmp 50)), none, []⟩] false) (.seq (.seq (.region [
  ⟨(some 51), (.mv (.tmp 0)), none, []⟩, 
  ⟨(some 52), (.faddr 0 (.tmp 10)), none, []⟩, 
  ⟨(some 53), (.load none (.tmp 52)), none, []⟩, 
  ⟨(some 54), (.call F.seicheref09_At [(.tmp 51), (.tmp 53)]), none, []⟩, 
  ⟨(some 55), (.bin .geq .no (.tmp 54) (.const (.int .i64 0))), none, []⟩] false) (.cond (.tmp 55) (.exit 3) .skip)) (.seq (.region [
  ⟨(some 56), (.mv (.tmp 5)), none, []⟩, 
  ⟨(some 57), (.len false (.tmp 56)), none, []⟩, 
  ⟨(some 11), (.mv (.tmp 57)), none, []⟩] false) (.seq (.block 4 (.loop c_seicheref09_Of_1)) (.region [
  ⟨(some 74), (.bsl 2 []), none, []⟩, 
  ⟨(some 75), (.mv (.tmp 5)), none, []⟩, 
  ⟨(some 76), (.mv (.tmp 11)), none, []⟩, 
  ⟨(some 77), (.slc 2 (.tmp 75) none (some (.tmp 76)) none), none, []⟩, 
  ⟨(some 78), (.app 2 (.tmp 74) (.tmp 77)), none, []⟩, 
  ⟨(some 79), (.faddr 0 (.tmp 10)), none, []⟩, 
  ⟨(some 80), (.load none (.tmp 79)), none, []⟩, 
  ⟨(some 81), (.build [(.str []), (.int .i64 0)] [(0, (1, (.tmp 80))), (1, (1, (.const (.int .i64 1))))]), none, []⟩, 
  ⟨(some 82), (.bsl 2 [(.tmp 81)]), none, []⟩, 
  ⟨(some 83), (.app 2 (.tmp 78) (.tmp 82)), none, []⟩, 
  ⟨(some 84), (.mv (.tmp 5)), none, []⟩, 
  ⟨(some 85), (.mv (.tmp 11)), none, []⟩, 
  ⟨(some 86), (.slc 2 (.tmp 84) (some (.tmp 85)) none none), none, []⟩, 
  ⟨(some 87), (.app 2 (.tmp 83) (.tmp 86)), none, []⟩, 
  ⟨(some 5), (.mvo 87), none, []⟩] true)))))) (.region [
  ⟨(some 88), (.bin .add .no (.tmp 47) (.const (.int .i64 1))), none, []⟩, 
  ⟨(some 47), (.mv (.tmp 88)), none, []⟩] false))))
def c_seicheref09_Of : ACode := (.seq (.region [
  ⟨(some 4), (.mv (.const (.sl true 2 []))), none, []⟩] false) (.seq (.region [
  ⟨(some 5), (.mv (.const (.sl true 2 []))), none, []⟩] false) (.seq (.seq (.region [
  ⟨(some 12), (.mv (.tmp 0)), none, []⟩, 
  ⟨(some 13), (.len false (.tmp 12)), none, []⟩, 
  ⟨(some 14), (.mv (.const (.int .i64 0))), none, []⟩] false) (.block 0 (.loop c_seicheref09_Of_0))) (.seq (.seq (.region [
  ⟨(some 45), (.mv (.tmp 1)), none, []⟩, 
  ⟨(some 46), (.len false (.tmp 45)), none, []⟩, 
  ⟨(some 47), (.mv (.const (.int .i64 0))), none, []⟩] false) (.block 2 (.loop c_seicheref09_Of_2))) (.seq (.region [
  ⟨(some 89), (.mvo 5), none, []⟩, 
  ⟨(some 4), (.mvo 89), none, []⟩] false) .ret)))))
theorem cf_seicheref09_Of : cFn Go.Proofs.Tryd.prog F.seicheref09_Of = some ⟨90, c_seicheref09_Of, [4]⟩ := by kernel_rfl
def c_seicheref08_Same_0 : ACode := (.seq (.region [
  ⟨(some 14), (.bin .lss .no (.tmp 13) (.tmp 12)), none, []⟩] false) (.seq (.cond (.tmp 14) .skip (.exit 0)) (.seq (.block 1 (.seq (.region [
  ⟨(some 15), (.mv (.tmp 13)), none, []⟩, 
  ⟨(some 5), (.mv (.tmp 15)), none, []⟩] false) (.seq (.region [
  ⟨(some 16), (.mv (.tmp 0)), none, []⟩, 
  ⟨(some 17), (.mv (.tmp 5)), none, []⟩, 
  ⟨(some 18), (.iaddr 33 (.tmp 16) (.tmp 17)), none, []⟩, 
  ⟨(some 19), (.load (some 33) (.tmp 18)), none, []⟩, 
  ⟨(some 20), (.mv (.tmp 1)), none, []⟩, 
  ⟨(some 21), (.mv (.tmp 5)), none, []⟩, 
  ⟨(some 22), (.iaddr 33 (.tmp 20) (.tmp 21)), none, []⟩, 
  ⟨(some 23), (.load (some 33) (.tmp 22)), none, []⟩, 
  ⟨(some 24), (.bin .neq (.flat ((none, true) :: repl 32 ((some .u8), true))) (.tmp 19) (.tmp 23)), none, []⟩] true) (.cond (.tmp 24) (.seq (.region [
  ⟨(some 4), (.mv (.const (.bool false))), none, []⟩] false) .ret) .skip)))) (.region [
  ⟨(some 25), (.bin .add .no (.tmp 13) (.const (.int .i64 1))), none, []⟩, 
  ⟨(some 13), (.mv (.tmp 25)), none, []⟩] false))))
def c_seicheref08_Same : ACode := (.seq (.region [
  ⟨(some 4), (.mv (.const (.bool false))), none, []⟩] false) (.seq (.seq (.region [
  ⟨(some 6), (.mv (.tmp 0)), none, []⟩, 
  ⟨(some 7), (.len false (.tmp 6)), none, []⟩, 
  ⟨(some 8), (.mv (.tmp 1)), none, []⟩, 
  ⟨(some 9), (.len false (.tmp 8)), none, []⟩, 
  ⟨(some 10), (.bin .neq .no (.tmp 7) (.tmp 9)), none, []⟩] false) (.cond (.tmp 10) (.seq (.region [
  ⟨(some 4), (.mv (.const (.bool false))), none, []⟩] false) .ret) .skip)) (.seq (.seq (.region [
  ⟨(some 11), (.mv (.tmp 0)), none, []⟩, 
  ⟨(some 12), (.len false (.tmp 11)), none, []⟩, 
  ⟨(some 13), (.mv (.const (.int .i64 0))), none, []⟩] false) (.block 0 (.loop c_seicheref08_Same_0))) (.seq (.region [
  ⟨(some 4), (.mv (.const (.bool true))), none, []⟩] false) .ret))))
theorem cf_seicheref08_Same : cFn Go.Proofs.Tryd.prog F.seicheref08_Same = some ⟨26, c_seicheref08_Same, [4]⟩ := by kernel_rfl
def c_path_Split : ACode := (.seq (.region [
  ⟨(some 2), (.mv (.const (.sl true 1 []))), none, []⟩] false) (.seq (.seq (.region [
  ⟨(some 3), (.mv (.tmp 0)), none, []⟩, 
  ⟨(some 4), (.bin .eql .no (.tmp 3) (.const (.str []))), none, []⟩] false) (.cond (.tmp 4) (.seq (.region [
  ⟨(some 2), (.mv (.const (.sl true 1 []))), none, []⟩] false) .ret) .skip)) (.seq (.region [
  ⟨(some 5), (.mv (.tmp 0)), none, []⟩, 
  ⟨(some 6), (.call F.strings_Split [(.tmp 5), (.const (.str [47]))]), none, []⟩, 
  ⟨(some 2), (.mvo 6), none, []⟩] false) .ret)))
theorem cf_path_Split : cFn Go.Proofs.Tryd.prog F.path_Split = some ⟨7, c_path_Split, [2]⟩ := by kernel_rfl
def c_seicheref06_Split : ACode := (.seq (.region [
  ⟨(some 2), (.mv (.const (.sl true 1 []))), none, []⟩] false) (.seq (.seq (.region [
  ⟨(some 3), (.mv (.tmp 0)), none, []⟩, 
  ⟨(some 4), (.bin .eql .no (.tmp 3) (.const (.str []))), none, []⟩] false) (.cond (.tmp 4) (.seq (.region [
  ⟨(some 2), (.mv (.const (.sl true 1 []))), none, []⟩] false) .ret) .skip)) (.seq (.region [
  ⟨(some 5), (.mv (.tmp 0)), none, []⟩, 
  ⟨(some 6), (.call F.seicheref06_Parts [(.tmp 5)]), none, []⟩, 
  ⟨(some 2), (.mvo 6), none, []⟩] false) .ret)))
theorem cf_seicheref06_Split : cFn Go.Proofs.Tryd.prog F.seicheref06_Split = some ⟨7, c_seicheref06_Split, [2]⟩ := by kernel_rfl
def c_seicheref09_Rises_0 : ACode := (.seq (.region [
  ⟨(some 7), (.bin .lss .no (.tmp 6) (.tmp 5)), none, []⟩] false) (.seq (.cond (.tmp 7) .skip (.exit 0)) (.seq (.block 1 (.seq (.region [
  ⟨(some 8), (.mv (.tmp 6)), none, []⟩, 
  ⟨(some 3), (.mv (.tmp 8)), none, []⟩] false) (.seq (.region [
  ⟨(some 9), (.mv (.tmp 3)), none, []⟩, 
  ⟨(some 10), (.bin .gtr .no (.tmp 9) (.const (.int .i64 0))), none, []⟩, 
  ⟨(some 11), (.mv (.tmp 10)), none, []⟩, 
  ⟨(some 12), (.mv (.tmp 0)), (some (11, true)), []⟩, 
  ⟨(some 13), (.mv (.tmp 3)), (some (11, true)), []⟩, 
  ⟨(some 14), (.bin .sub .no (.tmp 13) (.const (.int .i64 1))), (some (11, true)), []⟩, 
  ⟨(some 15), (.iaddr 33 (.tmp 12) (.tmp 14)), (some (11, true)), []⟩, 
  ⟨(some 16), (.faddr 0 (.tmp 15)), (some (11, true)), []⟩, 
  ⟨(some 17), (.load none (.tmp 16)), (some (11, true)), []⟩, 
  ⟨(some 18), (.mv (.tmp 0)), (some (11, true)), []⟩, 
  ⟨(some 19), (.mv (.tmp 3)), (some (11, true)), []⟩, 
  ⟨(some 20), (.iaddr 33 (.tmp 18) (.tmp 19)), (some (11, true)), []⟩, 
  ⟨(some 21), (.faddr 0 (.tmp 20)), (some (11, true)), []⟩, 
  ⟨(some 22), (.load none (.tmp 21)), (some (11, true)), []⟩, 
  ⟨(some 23), (.call F.seicheref06_Compare [(.tmp 17), (.tmp 22)]), (some (11, true)), []⟩, 
  ⟨(some 24), (.bin .geq .no (.tmp 23) (.const (.int .i64 0))), (some (11, true)), []⟩, 
  ⟨(some 25), (.pick (.tmp 11) (.tmp 24) (.const (.bool false))), none, []⟩] true) (.cond (.tmp 25) (.seq (.region [
  ⟨(some 2), (.mv (.const (.bool false))), none, []⟩] false) .ret) .skip)))) (.region [
  ⟨(some 26), (.bin .add .no (.tmp 6) (.const (.int .i64 1))), none, []⟩, 
  ⟨(some 6), (.mv (.tmp 26)), none, []⟩] false))))
def c_seicheref09_Rises : ACode := (.seq (.region [
  ⟨(some 2), (.mv (.const (.bool false))), none, []⟩] false) (.seq (.seq (.region [
  ⟨(some 4), (.mv (.tmp 0)), none, []⟩, 
  ⟨(some 5), (.len false (.tmp 4)), none, []⟩, 
  ⟨(some 6), (.mv (.const (.int .i64 0))), none, []⟩] false) (.block 0 (.loop c_seicheref09_Rises_0))) (.seq (.region [
  ⟨(some 2), (.mv (.const (.bool true))), none, []⟩] false) .ret)))
theorem cf_seicheref09_Rises : cFn Go.Proofs.Tryd.prog F.seicheref09_Rises = some ⟨27, c_seicheref09_Rises, [2]⟩ := by kernel_rfl
def c_path_Compare : ACode := (.seq (.region [
  ⟨(some 4), (.mv (.const (.int .i64 0))), none, []⟩] false) (.seq (.region [
  ⟨(some 5), (.mv (.tmp 0)), none, []⟩, 
  ⟨(some 6), (.call F.path_Split [(.tmp 5)]), none, []⟩, 
  ⟨(some 7), (.mv (.tmp 1)), none, []⟩, 
  ⟨(some 8), (.call F.path_Split [(.tmp 7)]), none, []⟩, 
  ⟨(some 9), (.call F.slices_Compare_Lstring_string [(.tmp 6), (.tmp 8)]), none, []⟩, 
  ⟨(some 4), (.mv (.tmp 9)), none, []⟩] false) .ret))
theorem cf_path_Compare : cFn Go.Proofs.Tryd.prog F.path_Compare = some ⟨10, c_path_Compare, [4]⟩ := by kernel_rfl
def c_seicheref09_At_0 : ACode := (.seq (.region [
  ⟨(some 10), (.bin .lss .no (.tmp 9) (.tmp 8)), none, []⟩] false) (.seq (.cond (.tmp 10) .skip (.exit 0)) (.seq (.block 1 (.seq (.region [
  ⟨(some 11), (.mv (.tmp 9)), none, []⟩, 
  ⟨(some 12), (.iaddr 33 (.tmp 7) (.tmp 9)), none, []⟩, 
  ⟨(some 13), (.load (some 33) (.tmp 12)), none, []⟩, 
  ⟨(some 6), (.new ((.str []) :: repl 32 (.int .u8 0))), none, []⟩, 
  ⟨(some 5), (.mv (.tmp 11)), none, []⟩, 
  ⟨none, (.store 33 (.tmp 6) (.tmp 13)), none, []⟩] false) (.seq (.region [
  ⟨(some 14), (.faddr 0 (.tmp 6)), none, []⟩, 
  ⟨(some 15), (.load none (.tmp 14)), none, []⟩, 
  ⟨(some 16), (.mv (.tmp 1)), none, []⟩, 
  ⟨(some 17), (.bin .eql .no (.tmp 15) (.tmp 16)), none, []⟩] false) (.cond (.tmp 17) (.seq (.region [
  ⟨(some 18), (.mv (.tmp 5)), none, []⟩, 
  ⟨(some 4), (.mv (.tmp 18)), none, []⟩] false) .ret) .skip)))) (.region [
  ⟨(some 19), (.bin .add .no (.tmp 9) (.const (.int .i64 1))), none, []⟩, 
  ⟨(some 9), (.mv (.tmp 19)), none, []⟩] false))))
def c_seicheref09_At : ACode := (.seq (.region [
  ⟨(some 4), (.mv (.const (.int .i64 0))), none, []⟩] false) (.seq (.seq (.region [
  ⟨(some 7), (.mv (.tmp 0)), none, []⟩, 
  ⟨(some 8), (.len false (.tmp 7)), none, []⟩, 
  ⟨(some 9), (.mv (.const (.int .i64 0))), none, []⟩] false) (.block 0 (.loop c_seicheref09_At_0))) (.seq (.region [
  ⟨(some 4), (.mv (.const (.int .i64 (-1)))), none, []⟩] false) .ret)))
theorem cf_seicheref09_At : cFn Go.Proofs.Tryd.prog F.seicheref09_At = some ⟨20, c_seicheref09_At, [4]⟩ := by kernel_rfl
def c_seicheref06_Compare_0 : ACode := (.seq (.seq (.region [
  ⟨(some 12), (.mv (.tmp 7)), none, []⟩, 
  ⟨(some 13), (.mv (.tmp 5)), none, []⟩, 
  ⟨(some 14), (.len false (.tmp 13)), none, []⟩, 
  ⟨(some 15), (.bin .lss .no (.tmp 12) (.tmp 14)), none, []⟩, 
  ⟨(some 16), (.mv (.tmp 15)), none, []⟩, 
  ⟨(some 17), (.mv (.tmp 7)), (some (16, true)), []⟩, 
  ⟨(some 18), (.mv (.tmp 6)), (some (16, true)), []⟩, 
  ⟨(some 19), (.len false (.tmp 18)), (some (16, true)), []⟩, 
  ⟨(some 20), (.bin .lss .no (.tmp 17) (.tmp 19)), (some (16, true)), []⟩, 
  ⟨(some 21), (.pick (.tmp 16) (.tmp 20) (.const (.bool false))), none, []⟩] false) (.cond (.tmp 21) .skip (.exit 0))) (.seq (.block 1 (.seq (.seq (.region [
  ⟨(some 24), (.mv (.tmp 5)), none, []⟩, 
  ⟨(some 25), (.mv (.tmp 7)), none, []⟩, 
  ⟨(some 26), (.iaddr 1 (.tmp 24) (.tmp 25)), none, []⟩, 
  ⟨(some 27), (.load none (.tmp 26)), none, []⟩, 
  ⟨(some 28), (.mv (.tmp 6)), none, []⟩, 
  ⟨(some 29), (.mv (.tmp 7)), none, []⟩, 
  ⟨(some 30), (.iaddr 1 (.tmp 28) (.tmp 29)), none, []⟩, 
  ⟨(some 31), (.load none (.tmp 30)), none, []⟩, 
  ⟨(some 32), (.bin .lss .no (.tmp 27) (.tmp 31)), none, []⟩] true) (.cond (.tmp 32) (.seq (.region [
  ⟨(some 4), (.mv (.const (.int .i64 (-1)))), none, []⟩] false) .ret) .skip)) (.seq (.region [
  ⟨(some 33), (.mv (.tmp 5)), none, []⟩, 
  ⟨(some 34), (.mv (.tmp 7)), none, []⟩, 
  ⟨(some 35), (.iaddr 1 (.tmp 33) (.tmp 34)), none, []⟩, 
  ⟨(some 36), (.load none (.tmp 35)), none, []⟩, 
  ⟨(some 37), (.mv (.tmp 6)), none, []⟩, 
  ⟨(some 38), (.mv (.tmp 7)), none, []⟩, 
  ⟨(some 39), (.iaddr 1 (.tmp 37) (.tmp 38)), none, []⟩, 
  ⟨(some 40), (.load none (.tmp 39)), none, []⟩, 
  ⟨(some 41), (.bin .gtr .no (.tmp 36) (.tmp 40)), none, []⟩] true) (.cond (.tmp 41) (.seq (.region [
  ⟨(some 4), (.mv (.const (.int .i64 1))), none, []⟩] false) .ret) .skip)))) (.region [
  ⟨(some 22), (.mv (.tmp 7)), none, []⟩, 
  ⟨(some 23), (.bin .add .no (.tmp 22) (.const (.int .i64 1))), none, []⟩, 
  ⟨(some 7), (.mv (.tmp 23)), none, []⟩] false)))
def c_seicheref06_Compare : ACode := (.seq (.region [
  ⟨(some 4), (.mv (.const (.int .i64 0))), none, []⟩] false) (.seq (.region [
  ⟨(some 8), (.mv (.tmp 0)), none, []⟩, 
  ⟨(some 9), (.call F.seicheref06_Split [(.tmp 8)]), none, []⟩, 
  ⟨(some 10), (.mv (.tmp 1)), none, []⟩, 
  ⟨(some 11), (.call F.seicheref06_Split [(.tmp 10)]), none, []⟩, 
  ⟨(some 5), (.mvo 9), none, []⟩, 
  ⟨(some 6), (.mvo 11), none, []⟩] false) (.seq (.seq (.region [
  ⟨(some 7), (.mv (.const (.int .i64 0))), none, []⟩] false) (.block 0 (.loop c_seicheref06_Compare_0))) (.seq (.seq (.region [
  ⟨(some 42), (.mv (.tmp 5)), none, []⟩, 
  ⟨(some 43), (.len false (.tmp 42)), none, []⟩, 
  ⟨(some 44), (.mv (.tmp 6)), none, []⟩, 
  ⟨(some 45), (.len false (.tmp 44)), none, []⟩, 
  ⟨(some 46), (.bin .lss .no (.tmp 43) (.tmp 45)), none, []⟩] false) (.cond (.tmp 46) (.seq (.region [
  ⟨(some 4), (.mv (.const (.int .i64 (-1)))), none, []⟩] false) .ret) .skip)) (.seq (.seq (.region [
  ⟨(some 47), (.mv (.tmp 5)), none, []⟩, 
  ⟨(some 48), (.len false (.tmp 47)), none, []⟩, 
  ⟨(some 49), (.mv (.tmp 6)), none, []⟩, 
  ⟨(some 50), (.len false (.tmp 49)), none, []⟩, 
  ⟨(some 51), (.bin .gtr .no (.tmp 48) (.tmp 50)), none, []⟩] false) (.cond (.tmp 51) (.seq (.region [
  ⟨(some 4), (.mv (.const (.int .i64 1))), none, []⟩] false) .ret) .skip)) (.seq (.region [
  ⟨(some 4), (.mv (.const (.int .i64 0))), none, []⟩] false) .ret))))))
theorem cf_seicheref06_Compare : cFn Go.Proofs.Tryd.prog F.seicheref06_Compare = some ⟨52, c_seicheref06_Compare, [4]⟩ := by kernel_rfl
def c_seicheref06_Parts_0 : ACode := (.seq (.seq (.region [
  ⟨(some 6), (.mv (.tmp 5)), none, []⟩, 
  ⟨(some 7), (.mv (.tmp 0)), none, []⟩, 
  ⟨(some 8), (.len true (.tmp 7)), none, []⟩, 
  ⟨(some 9), (.bin .leq .no (.tmp 6) (.tmp 8)), none, []⟩] false) (.cond (.tmp 9) .skip (.exit 0))) (.seq (.block 1 (.seq (.region [
  ⟨(some 12), (.mv (.tmp 5)), none, []⟩, 
  ⟨(some 13), (.mv (.tmp 0)), none, []⟩, 
  ⟨(some 14), (.len true (.tmp 13)), none, []⟩, 
  ⟨(some 15), (.bin .eql .no (.tmp 12) (.tmp 14)), none, []⟩, 
  ⟨(some 16), (.mv (.tmp 15)), none, []⟩, 
  ⟨(some 17), (.mv (.tmp 0)), (some (16, false)), []⟩, 
  ⟨(some 18), (.mv (.tmp 5)), (some (16, false)), []⟩, 
  ⟨(some 19), (.idx (.tmp 17) (.tmp 18)), (some (16, false)), []⟩, 
  ⟨(some 20), (.bin .eql .no (.tmp 19) (.const (.int .u8 47))), (some (16, false)), []⟩, 
  ⟨(some 21), (.pick (.tmp 16) (.const (.bool true)) (.tmp 20)), none, []⟩] false) (.cond (.tmp 21) (.seq (.region [
  ⟨(some 22), (.mvo 3), none, []⟩, 
  ⟨(some 23), (.mv (.tmp 0)), none, []⟩, 
  ⟨(some 24), (.mv (.tmp 4)), none, []⟩, 
  ⟨(some 25), (.mv (.tmp 5)), none, []⟩, 
  ⟨(some 26), (.sls (.tmp 23) (some (.tmp 24)) (some (.tmp 25))), none, []⟩, 
  ⟨(some 27), (.bsl 1 [(.tmp 26)]), none, []⟩, 
  ⟨(some 28), (.app 1 (.tmp 22) (.tmp 27)), none, []⟩, 
  ⟨(some 3), (.mvo 28), none, []⟩] false) (.region [
  ⟨(some 29), (.mv (.tmp 5)), none, []⟩, 
  ⟨(some 30), (.bin .add .no (.tmp 29) (.const (.int .i64 1))), none, []⟩, 
  ⟨(some 4), (.mv (.tmp 30)), none, []⟩] false)) .skip))) (.region [
  ⟨(some 10), (.mv (.tmp 5)), none, []⟩, 
  ⟨(some 11), (.bin .add .no (.tmp 10) (.const (.int .i64 1))), none, []⟩, 
  ⟨(some 5), (.mv (.tmp 11)), none, []⟩] false)))
def c_seicheref06_Parts : ACode := (.seq (.region [
  ⟨(some 2), (.mv (.const (.sl true 1 []))), none, []⟩] false) (.seq (.region [
  ⟨(some 3), (.mv (.const (.sl true 1 []))), none, []⟩] false) (.seq (.region [
  ⟨(some 4), (.mv (.const (.int .i64 0))), none, []⟩] false) (.seq (.seq (.region [
  ⟨(some 5), (.mv (.const (.int .i64 0))), none, []⟩] false) (.block 0 (.loop c_seicheref06_Parts_0))) (.seq (.region [
  ⟨(some 31), (.mvo 3), none, []⟩, 
  ⟨(some 2), (.mvo 31), none, []⟩] false) .ret)))))
theorem cf_seicheref06_Parts : cFn Go.Proofs.Tryd.prog F.seicheref06_Parts = some ⟨32, c_seicheref06_Parts, [2]⟩ := by kernel_rfl
def c_slices_Compare_Lstring_string_0 : ACode := (.seq (.region [
  ⟨(some 12), (.bin .lss .no (.tmp 11) (.tmp 10)), none, []⟩] false) (.seq (.cond (.tmp 12) .skip (.exit 0)) (.seq (.block 1 (.seq (.region [
  ⟨(some 13), (.mv (.tmp 11)), none, []⟩, 
  ⟨(some 14), (.iaddr 1 (.tmp 9) (.tmp 11)), none, []⟩, 
  ⟨(some 15), (.load none (.tmp 14)), none, []⟩, 
  ⟨(some 5), (.mv (.tmp 13)), none, []⟩, 
  ⟨(some 6), (.mv (.tmp 15)), none, []⟩] false) (.seq (.seq (.region [
  ⟨(some 16), (.mv (.tmp 5)), none, []⟩, 
  ⟨(some 17), (.mv (.tmp 1)), none, []⟩, 
  ⟨(some 18), (.len false (.tmp 17)), none, []⟩, 
  ⟨(some 19), (.bin .geq .no (.tmp 16) (.tmp 18)), none, []⟩] false) (.cond (.tmp 19) (.seq (.region [
  ⟨(some 4), (.mv (.const (.int .i64 1))), none, []⟩] false) .ret) .skip)) (.seq (.region [
  ⟨(some 20), (.mv (.tmp 1)), none, []⟩, 
  ⟨(some 21), (.mv (.tmp 5)), none, []⟩, 
  ⟨(some 22), (.iaddr 1 (.tmp 20) (.tmp 21)), none, []⟩, 
  ⟨(some 23), (.load none (.tmp 22)), none, []⟩, 
  ⟨(some 7), (.mv (.tmp 23)), none, []⟩] false) (.seq (.region [
  ⟨(some 24), (.mv (.tmp 6)), none, []⟩, 
  ⟨(some 25), (.mv (.tmp 7)), none, []⟩, 
  ⟨(some 26), (.call F.cmp_Compare_string [(.tmp 24), (.tmp 25)]), none, []⟩, 
  ⟨(some 8), (.mv (.tmp 26)), none, []⟩] false) (.seq (.region [
  ⟨(some 27), (.mv (.tmp 8)), none, []⟩, 
  ⟨(some 28), (.bin .neq .no (.tmp 27) (.const (.int .i64 0))), none, []⟩] false) (.cond (.tmp 28) (.seq (.region [
  ⟨(some 29), (.mv (.tmp 8)), none, []⟩, 
  ⟨(some 4), (.mv (.tmp 29)), none, []⟩] false) .ret) .skip))))))) (.region [
  ⟨(some 30), (.bin .add .no (.tmp 11) (.const (.int .i64 1))), none, []⟩, 
  ⟨(some 11), (.mv (.tmp 30)), none, []⟩] false))))
def c_slices_Compare_Lstring_string : ACode := (.seq (.region [
  ⟨(some 4), (.mv (.const (.int .i64 0))), none, []⟩] false) (.seq (.seq (.region [
  ⟨(some 9), (.mv (.tmp 0)), none, []⟩, 
  ⟨(some 10), (.len false (.tmp 9)), none, []⟩, 
  ⟨(some 11), (.mv (.const (.int .i64 0))), none, []⟩] false) (.block 0 (.loop c_slices_Compare_Lstring_string_0))) (.seq (.seq (.region [
  ⟨(some 31), (.mv (.tmp 0)), none, []⟩, 
  ⟨(some 32), (.len false (.tmp 31)), none, []⟩, 
  ⟨(some 33), (.mv (.tmp 1)), none, []⟩, 
  ⟨(some 34), (.len false (.tmp 33)), none, []⟩, 
  ⟨(some 35), (.bin .lss .no (.tmp 32) (.tmp 34)), none, []⟩] false) (.cond (.tmp 35) (.seq (.region [
  ⟨(some 4), (.mv (.const (.int .i64 (-1)))), none, []⟩] false) .ret) .skip)) (.seq (.region [
  ⟨(some 4), (.mv (.const (.int .i64 0))), none, []⟩] false) .ret))))
theorem cf_slices_Compare_Lstring_string : cFn Go.Proofs.Tryd.prog F.slices_Compare_Lstring_string = some ⟨36, c_slices_Compare_Lstring_string, [4]⟩ := by kernel_rfl
def c_cmp_Compare_string : ACode := (.seq (.region [
  ⟨(some 4), (.mv (.const (.int .i64 0))), none, []⟩] false) (.seq (.region [
  ⟨(some 7), (.mv (.tmp 0)), none, []⟩, 
  ⟨(some 8), (.call F.cmp_isNaN_string [(.tmp 7)]), none, []⟩, 
  ⟨(some 5), (.mv (.tmp 8)), none, []⟩] false) (.seq (.region [
  ⟨(some 9), (.mv (.tmp 1)), none, []⟩, 
  ⟨(some 10), (.call F.cmp_isNaN_string [(.tmp 9)]), none, []⟩, 
  ⟨(some 6), (.mv (.tmp 10)), none, []⟩] false) (.seq (.seq (.region [
  ⟨(some 11), (.mv (.tmp 5)), none, []⟩] false) (.cond (.tmp 11) (.seq (.seq (.region [
  ⟨(some 12), (.mv (.tmp 6)), none, []⟩] false) (.cond (.tmp 12) (.seq (.region [
  ⟨(some 4), (.mv (.const (.int .i64 0))), none, []⟩] false) .ret) .skip)) (.seq (.region [
  ⟨(some 4), (.mv (.const (.int .i64 (-1)))), none, []⟩] false) .ret)) .skip)) (.seq (.seq (.region [
  ⟨(some 13), (.mv (.tmp 6)), none, []⟩] false) (.cond (.tmp 13) (.seq (.region [
  ⟨(some 4), (.mv (.const (.int .i64 1))), none, []⟩] false) .ret) .skip)) (.seq (.seq (.region [
  ⟨(some 14), (.mv (.tmp 0)), none, []⟩, 
  ⟨(some 15), (.mv (.tmp 1)), none, []⟩, 
  ⟨(some 16), (.bin .lss .no (.tmp 14) (.tmp 15)), none, []⟩] false) (.cond (.tmp 16) (.seq (.region [
  ⟨(some 4), (.mv (.const (.int .i64 (-1)))), none, []⟩] false) .ret) .skip)) (.seq (.seq (.region [
  ⟨(some 17), (.mv (.tmp 0)), none, []⟩, 
  ⟨(some 18), (.mv (.tmp 1)), none, []⟩, 
  ⟨(some 19), (.bin .gtr .no (.tmp 17) (.tmp 18)), none, []⟩] false) (.cond (.tmp 19) (.seq (.region [
  ⟨(some 4), (.mv (.const (.int .i64 1))), none, []⟩] false) .ret) .skip)) (.seq (.region [
  ⟨(some 4), (.mv (.const (.int .i64 0))), none, []⟩] false) .ret))))))))
theorem cf_cmp_Compare_string : cFn Go.Proofs.Tryd.prog F.cmp_Compare_string = some ⟨20, c_cmp_Compare_string, [4]⟩ := by kernel_rfl
def c_cmp_isNaN_string : ACode := (.seq (.region [
  ⟨(some 2), (.mv (.const (.bool false))), none, []⟩] false) (.seq (.region [
  ⟨(some 3), (.mv (.tmp 0)), none, []⟩, 
  ⟨(some 4), (.mv (.tmp 0)), none, []⟩, 
  ⟨(some 5), (.bin .neq .no (.tmp 3) (.tmp 4)), none, []⟩, 
  ⟨(some 2), (.mv (.tmp 5)), none, []⟩] false) .ret))
theorem cf_cmp_isNaN_string : cFn Go.Proofs.Tryd.prog F.cmp_isNaN_string = some ⟨6, c_cmp_isNaN_string, [2]⟩ := by kernel_rfl
end Go.Proofs.YtainplhaaklpeaaDoor
