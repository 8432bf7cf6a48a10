/-
  KernelTells: its runs, what is asked.
-/
import Derived.Test.YtkdjcmpgnkecfaaGreatDoorKA
noncomputable section
namespace Go.Proofs.YtkdjcmpgnkecfaaGreatDoor.kernelTells
open Go.Proofs.YtkdjcmpgnkecfaaGreatDoor Go.Ev
def run (fs : List Fact) (a : AV) : Option AV := ((fns (env fs) PK 300).call (.func 13 [] []) [a, .sym .i64 1] hL).map (·.1)
def fp1 : List Fact := [.test .eql .i64 (.var 1) (.lit 1) true]
def fp2 : List Fact := [.test .eql .i64 (.var 1) (.lit 1) false, .test .eql .i64 (.var 1) (.lit 2) true]
def fp3 : List Fact := [.test .eql .i64 (.var 1) (.lit 1) false, .test .eql .i64 (.var 1) (.lit 2) false]
def fo1 : List Fact := [.test .eql .i64 (.var 0) (.lit 1) false, .test .eql .i64 (.var 0) (.lit 2) false, .test .eql .i64 (.var 0) (.lit 3) false, .test .eql .i64 (.var 0) (.lit 4) false, .test .eql .i64 (.var 0) (.lit 5) false, .test .eql .i64 (.var 0) (.lit 6) false, .test .eql .i64 (.var 0) (.lit 7) false, .test .eql .i64 (.var 0) (.lit 8) false, .test .eql .i64 (.var 0) (.lit 9) false, .test .eql .i64 (.var 0) (.lit 10) false, .test .eql .i64 (.var 0) (.lit 11) false, .test .geq .i64 (.var 0) (.lit 1) false]
def fo2 : List Fact := [.test .eql .i64 (.var 0) (.lit 1) false, .test .eql .i64 (.var 0) (.lit 2) false, .test .eql .i64 (.var 0) (.lit 3) false, .test .eql .i64 (.var 0) (.lit 4) false, .test .eql .i64 (.var 0) (.lit 5) false, .test .eql .i64 (.var 0) (.lit 6) false, .test .eql .i64 (.var 0) (.lit 7) false, .test .eql .i64 (.var 0) (.lit 8) false, .test .eql .i64 (.var 0) (.lit 9) false, .test .eql .i64 (.var 0) (.lit 10) false, .test .eql .i64 (.var 0) (.lit 11) false, .test .geq .i64 (.var 0) (.lit 1) true, .test .leq .i64 (.var 0) (.lit 11) false]
end Go.Proofs.YtkdjcmpgnkecfaaGreatDoor.kernelTells
