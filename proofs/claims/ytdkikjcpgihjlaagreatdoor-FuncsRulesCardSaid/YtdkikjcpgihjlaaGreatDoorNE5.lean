/- One plain sentence: weakest preconditions, contracts and plain laws that the claim rests on, text behind text. Conditions: those that each states. -/
import Derived.Test.YtdkikjcpgihjlaaGreatDoorNE1
import Derived.Test.YtdkikjcpgihjlaaGreatDoorNE4
import Derived.Deep.Slices
import Derived.DataReads
import Derived.ChangeArms
import Derived.Test.YtdkikjcpgihjlaaGreatDoorNE3
import Derived.OpenShut
import Derived.Test.YtdkikjcpgihjlaaGreatDoorNE2
import Derived.Test.YtdkikjcpgihjlaaGreatDoorRows
import Derived.Below
import Derived.RowKit
import Derived.ChangeMaps5
import Derived.MakeChecks
import Derived.Lib.LaidTab
import Derived.Lib.LaidU8
import Derived.SizedLaws
import Derived.Shelf.Vars
set_option linter.all false
set_option linter.unusedSimpArgs false
set_option linter.unusedVariables false
set_option linter.unusedSectionVars false
namespace Go.Proofs.YtdkikjcpgihjlaaGreatDoor
open Go Go.Eng
set_option maxRecDepth 100000
variable [HX]
def plan5 : Plan := { js := [(50, ⟨[12, 13], [], 12⟩), (34, ⟨[], [6], 9⟩), (38, ⟨[10], [], 9⟩), (27, ⟨[92], [], 9⟩), (19, ⟨[55], [], 9⟩), (10, ⟨[0, 1], [0, 1], 3⟩)], ds := [(53, ⟨[0, 1, 2, 3, 4, 5, 6, 7, 8, 9, 10, 14, 15, 16, 18, 21, 22, 23, 24, 25, 26, 27, 33, 34, 36, 37, 38], [[], [0], [], [2], [0, 1, 2, 3], [], [0, 1, 2, 3, 4, 5], [0, 1, 2, 3, 4, 5, 6], [0, 1, 2, 3, 4, 5, 6, 7], [0, 1, 2, 3, 4, 5, 6, 7], [0, 1, 2, 3, 4, 5, 6, 7], [0, 1, 2, 3, 4, 5, 6, 7, 10], [0, 1, 2, 3, 4, 5, 6, 7, 9, 10, 11], [0, 1, 2, 3, 4, 5, 6, 7, 8, 9, 10, 11, 12], [0, 1, 2, 3, 4, 5, 6, 7, 8, 9, 10, 11, 12, 13], [0, 1, 2, 3, 4, 5, 6, 7], [0, 1, 2, 3, 4, 5, 6, 7], [0, 1, 2, 3, 4, 5, 6, 7, 8, 9, 10, 11, 12, 13, 16], [0, 1, 2, 3, 4, 5, 6, 7], [0, 1, 2, 3, 4, 5, 6, 7, 8, 9, 10, 11, 12, 13, 16, 17, 18], [0, 1, 2, 3, 4, 5, 6, 7, 8, 9, 10, 11, 12, 13, 15, 16, 17, 18, 19], [0, 1, 2, 3, 4, 5, 6, 7, 8, 9, 10, 11, 12, 13, 15, 16, 17, 18, 19, 20], [0, 1, 2, 3, 4, 5, 6, 7, 8, 9, 10, 11, 12, 13, 14, 15, 16, 17, 18, 19, 20, 21], [0, 1, 2, 3, 4, 5, 6, 7, 8, 9, 10, 11, 12, 13, 14, 15, 16, 17, 18, 19, 20, 21, 22], [0, 1, 2, 3, 4, 5, 6, 7, 8, 9, 10, 11, 12, 13, 14, 15, 16, 17, 18, 19, 20, 21, 22, 23], [0, 1, 2, 3, 4, 5, 6, 7, 8, 9, 10, 11, 12, 13, 14, 15, 16, 17, 18, 19, 20, 21, 22, 23, 24], [0, 1, 2, 3, 4, 5, 6, 7, 8, 9, 10, 11, 12, 13, 14, 15, 16, 17, 18, 19, 20, 21, 22, 23, 24], [0, 1, 2, 3, 4, 5, 6, 7, 8, 9, 10, 11, 12, 13, 14, 15, 16, 17, 18, 19, 20, 21, 22, 23, 24], [0, 1, 2, 3, 4, 5, 6, 7, 8, 9, 10, 11, 12, 13, 14, 15, 16, 17, 18, 19, 20, 21, 22, 23, 24, 27], [0, 1, 2, 3, 4, 5, 6, 7, 8, 9, 10, 11, 12, 13, 14, 15, 16, 17, 18, 19, 20, 21, 22, 23, 24, 27, 28], [0, 1, 2, 3, 4, 5, 6, 7, 8, 9, 10, 11, 12, 13, 14, 15, 16, 17, 18, 19, 20, 21, 22, 23, 24, 26, 27, 28, 29], [0, 1, 2, 3, 4, 5, 6, 7, 8, 9, 10, 11, 12, 13, 14, 15, 16, 17, 18, 19, 20, 21, 22, 23, 24, 26, 27, 28, 29, 30], [0, 1, 2, 3, 4, 5, 6, 7, 8, 9, 10, 11, 12, 13, 14, 15, 16, 17, 18, 19, 20, 21, 22, 23, 24, 25, 26, 27, 28, 29, 30, 31], [0, 1, 2, 3, 4, 5, 6, 7, 8, 9, 10, 11, 12, 13, 14, 15, 16, 17, 18, 19, 20, 21, 22, 23, 24, 25, 26, 27, 28, 29, 30, 31, 32], [0, 1, 2, 3, 4, 5, 6, 7, 8, 9, 10, 11, 12, 13, 14, 15, 16, 17, 18, 19, 20, 21, 22, 23, 24], [0, 1, 2, 3, 4, 5, 6, 7, 8, 9, 10, 11, 12, 13, 14, 15, 16, 17, 18, 19, 20, 21, 22, 23, 24, 25, 26, 27, 28, 29, 30, 31, 32, 34], [0, 1, 2, 3, 4, 5, 6, 7, 8, 9, 10, 11, 12, 13, 14, 15, 16, 17, 18, 19, 20, 21, 22, 23, 24, 25, 26, 27, 28, 29, 30, 31, 32, 33, 34, 35], [0, 1, 2, 3, 4, 5, 6, 7, 8, 9, 10, 11, 12, 13, 14, 15, 16, 17, 18, 19, 20, 21, 22, 23, 24, 25, 26, 27, 28, 29, 30, 31, 32, 33, 34, 35, 36], [0, 1, 2, 3, 4, 5, 6, 7, 8, 9, 10, 11, 12, 13, 14, 15, 16, 17, 18, 19, 20, 21, 22, 23, 24, 25, 26, 27, 28, 29, 30, 31, 32, 33, 34, 35, 36, 37]]⟩), (51, ⟨[0, 1, 3, 6, 7, 8], [[], [], [], [], [1, 2, 3], [0, 1, 2, 3, 4], [], [], [], [0, 1, 2, 3, 4, 5], [0, 1, 2, 3, 4, 5, 7, 8, 9], [0, 1, 2, 3, 4, 5, 6, 7, 8, 9, 10], [], [], [0, 1, 2, 3, 4, 5, 6, 7, 8, 9, 10, 11, 12, 13], [0, 1, 2, 3, 4, 5, 6, 7, 8, 9, 10, 11, 12, 13, 14]]⟩), (41, ⟨[0, 1, 3, 6, 8, 9, 10, 11, 12, 17, 19, 20], [[], [], [1], [], [1, 2, 3], [0, 1, 2, 3, 4], [], [0, 1, 2, 3, 4, 5, 6], [0, 1, 2, 3, 4, 5, 6, 7], [0, 1, 2, 3, 4, 5, 6, 7, 8], [0, 1, 2, 3, 4, 5, 6, 7, 8, 9], [0, 1, 2, 3, 4, 5, 6, 7, 8, 9], [0, 1, 2, 3, 4, 5, 6, 7, 8, 9], [0, 1, 2, 3, 4, 5, 6, 7, 8, 9, 12], [0, 1, 2, 3, 4, 5, 6, 7, 8, 9, 11, 12, 13], [0, 1, 2, 3, 4, 5, 6, 7, 8, 9, 11, 12, 13, 14], [0, 1, 2, 3, 4, 5, 6, 7, 8, 9, 10, 11, 12, 13, 14, 15], [0, 1, 2, 3, 4, 5, 6, 7, 8, 9], [0, 1, 2, 3, 4, 5, 6, 7, 8, 9, 10, 11, 12, 13, 14, 15, 16, 17], [0, 1, 2, 3, 4, 5, 6, 7, 8, 9, 10, 11, 12, 13, 14, 15, 16, 17, 18], [0, 1, 2, 3, 4, 5, 6, 7, 8, 9, 10, 11, 12, 13, 14, 15, 16, 17, 18, 19]]⟩), (39, ⟨[0, 1, 3], [[], [], [1], [], [1, 2, 3], [0, 1, 2, 3, 4], [], [0, 1, 2, 3, 4, 5, 6]]⟩), (28, ⟨[0, 1, 2, 7, 8, 9, 15, 16, 17, 18, 19, 20, 27, 28, 29, 35, 36], [[], [], [], [2], [1, 2, 3], [1, 2, 3, 4], [0, 1, 2, 3, 4, 5], [], [], [], [9], [0, 1, 2, 3, 4, 5, 6, 8, 9, 10], [0, 1, 2, 3, 4, 5, 6, 8, 9, 10, 11], [0, 1, 2, 3, 4, 5, 6, 7, 8, 9, 10, 11, 12], [0, 1, 2, 3, 4, 5, 6, 7, 8, 9, 10, 11, 12, 13], [0, 1, 2, 3, 4, 5, 6, 7, 8, 9, 10, 11, 12, 13, 14], [0, 1, 2, 3, 4, 5, 6, 7, 8, 9, 10, 11, 12, 13, 14, 15], [0, 1, 2, 3, 4, 5, 6, 7, 8, 9, 10, 11, 12, 13, 14, 15, 16], [0, 1, 2, 3, 4, 5, 6, 7, 8, 9, 10, 11, 12, 13, 14, 15, 16], [0, 1, 2, 3, 4, 5, 6, 7, 8, 9, 10, 11, 12, 13, 14, 15, 16], [0, 1, 2, 3, 4, 5, 6, 7, 8, 9, 10, 11, 12, 13, 14, 15, 16], [0, 1, 2, 3, 4, 5, 6, 7, 8, 9, 10, 11, 12, 13, 14, 15, 16, 20], [0, 1, 2, 3, 4, 5, 6, 7, 8, 9, 10, 11, 12, 13, 14, 15, 16, 19, 20, 21], [0, 1, 2, 3, 4, 5, 6, 7, 8, 9, 10, 11, 12, 13, 14, 15, 16, 19, 20, 21, 22], [0, 1, 2, 3, 4, 5, 6, 7, 8, 9, 10, 11, 12, 13, 14, 15, 16, 18, 19, 20, 21, 22, 23], [0, 1, 2, 3, 4, 5, 6, 7, 8, 9, 10, 11, 12, 13, 14, 15, 16, 18, 19, 20, 21, 22, 23, 24], [0, 1, 2, 3, 4, 5, 6, 7, 8, 9, 10, 11, 12, 13, 14, 15, 16, 17, 18, 19, 20, 21, 22, 23, 24, 25], [0, 1, 2, 3, 4, 5, 6, 7, 8, 9, 10, 11, 12, 13, 14, 15, 16], [0, 1, 2, 3, 4, 5, 6, 7, 8, 9, 10, 11, 12, 13, 14, 15, 16], [0, 1, 2, 3, 4, 5, 6, 7, 8, 9, 10, 11, 12, 13, 14, 15, 16], [0, 1, 2, 3, 4, 5, 6, 7, 8, 9, 10, 11, 12, 13, 14, 15, 16, 29], [0, 1, 2, 3, 4, 5, 6, 7, 8, 9, 10, 11, 12, 13, 14, 15, 16, 17, 18, 19, 20, 21, 22, 23, 24, 25, 26, 28, 29, 30], [0, 1, 2, 3, 4, 5, 6, 7, 8, 9, 10, 11, 12, 13, 14, 15, 16, 17, 18, 19, 20, 21, 22, 23, 24, 25, 26, 28, 29, 30, 31], [0, 1, 2, 3, 4, 5, 6, 7, 8, 9, 10, 11, 12, 13, 14, 15, 16, 17, 18, 19, 20, 21, 22, 23, 24, 25, 26, 27, 28, 29, 30, 31, 32], [0, 1, 2, 3, 4, 5, 6, 7, 8, 9, 10, 11, 12, 13, 14, 15, 16, 17, 18, 19, 20, 21, 22, 23, 24, 25, 26, 27, 28, 29, 30, 31, 32, 33], [0, 1, 2, 3, 4, 5, 6, 7, 8, 9, 10, 11, 12, 13, 14, 15, 16, 17, 18, 19, 20, 21, 22, 23, 24, 25, 26, 27, 28, 29, 30, 31, 32, 33, 34], [0, 1, 2, 3, 4, 5, 6, 7, 8, 9, 10, 11, 12, 13, 14, 15, 16, 17, 18, 19, 20, 21, 22, 23, 24, 25, 26, 27, 28, 29, 30, 31, 32, 33, 34, 35]]⟩), (20, ⟨[0, 2, 3, 4, 5, 8, 9, 13, 14, 15, 16, 19, 20, 21, 22, 23], [[], [0], [0, 1], [0, 1, 2], [0, 1, 2, 3], [0, 1, 2, 3], [0, 1, 2, 3, 5], [0, 1, 2, 3, 4, 5, 6], [0, 1, 2, 3], [0, 1, 2, 3], [0, 1, 2, 3, 9], [0, 1, 2, 3, 4, 5, 6, 7, 8, 9, 10], [0, 1, 2, 3, 4, 5, 6, 7, 8, 9, 10, 11], [0, 1, 2, 3, 4, 5, 6, 7, 8, 9, 10, 11, 12], [0, 1, 2, 3, 4, 5, 6, 7, 8, 9, 10, 11, 12, 13], [0, 1, 2, 3, 4, 5, 6, 7, 8, 9, 10, 11, 12, 13, 14], [0, 1, 2, 3, 4, 5, 6, 7, 8, 9, 10, 11, 12, 13, 14], [0, 1, 2, 3, 4, 5, 6, 7, 8, 9, 10, 11, 12, 13, 14, 16], [0, 1, 2, 3, 4, 5, 6, 7, 8, 9, 10, 11, 12, 13, 14, 15, 16, 17], [0, 1, 2, 3, 4, 5, 6, 7, 8, 9, 10, 11, 12, 13, 14, 15, 16, 17, 18], [0, 1, 2, 3, 4, 5, 6, 7, 8, 9, 10, 11, 12, 13, 14], [0, 1, 2, 3, 4, 5, 6, 7, 8, 9, 10, 11, 12, 13, 14, 15, 16, 17, 18, 19, 20], [0, 1, 2, 3, 4, 5, 6, 7, 8, 9, 10, 11, 12, 13, 14, 15, 16, 17, 18, 19, 20, 21], [0, 1, 2, 3, 4, 5, 6, 7, 8, 9, 10, 11, 12, 13, 14, 15, 16, 17, 18, 19, 20, 21, 22]]⟩), (11, ⟨[2, 3, 4, 7, 8, 9], [[], [], [1], [1, 2], [0, 1, 2, 3], [], [], [6], [6, 7], [5, 6, 7, 8], [0, 1, 2, 3, 4], [0, 1, 2, 3, 4, 5, 6, 7, 8, 9, 10]]⟩)] }
def W5 (v0 v1 v2 : Value) (w : World) (K : Value → World → Prop) : Prop :=
  callF Tryz.prog 9 [] w fun t14 w1 =>
  unW .not t14 fun t15 =>
  condW t15 (
    K (.bool false) w1) (
    JoinW (fun J2 =>
      (
       (
        lensW v0 fun t18 =>
        minW t18 (.int .i64 300) fun t19 =>
        slsW v0 none (some t19) fun t20 =>
        (
         (
          lensW v1 fun t23 =>
          minW t23 (.int .i64 10) fun t24 =>
          slsW v1 none (some t24) fun t25 =>
      J2 [t20, t25] w1.drew) ∧
         (
          lensW v1 fun t23 =>
          minW t23 (.int .i64 10) fun t24 =>
          slsW v1 none (some t24) fun t25 =>
      J2 [t20, t25] w1.drew)) ∧
        (
         lensW v1 fun t23 =>
         minW t23 (.int .i64 10) fun t24 =>
         (
          slsW v1 none (some t24) fun t25 =>
      J2 [t20, t25] w1.drew) ∧
         (
          slsW v1 none (some t24) fun t25 =>
      J2 [t20, t25] w1.drew)) ∧
        (
         (
          lensW v1 fun t23 =>
          minW t23 (.int .i64 10) fun t24 =>
          slsW v1 none (some t24) fun t25 =>
      J2 [t20, t25] w1.drew) ∧
         (
          lensW v1 fun t23 =>
          minW t23 (.int .i64 10) fun t24 =>
          slsW v1 none (some t24) fun t25 =>
      J2 [t20, t25] w1.drew))) ∧
       (
        (
         lensW v0 fun t18 =>
         minW t18 (.int .i64 300) fun t19 =>
         slsW v0 none (some t19) fun t20 =>
         (
          lensW v1 fun t23 =>
          minW t23 (.int .i64 10) fun t24 =>
          slsW v1 none (some t24) fun t25 =>
      J2 [t20, t25] w1.drew) ∧
         (
          lensW v1 fun t23 =>
          minW t23 (.int .i64 10) fun t24 =>
          slsW v1 none (some t24) fun t25 =>
      J2 [t20, t25] w1.drew)) ∧
        (
         lensW v1 fun t23 =>
         minW t23 (.int .i64 10) fun t24 =>
         slsW v1 none (some t24) fun t25 =>
         lensW v0 fun t18 =>
         minW t18 (.int .i64 300) fun t19 =>
         slsW v0 none (some t19) fun t20 =>
      J2 [t20, t25] w1.drew)) ∧
       (
        lensW v1 fun t23 =>
        minW t23 (.int .i64 10) fun t24 =>
        (
         lensW v0 fun t18 =>
         minW t18 (.int .i64 300) fun t19 =>
         slsW v0 none (some t19) fun t20 =>
         (
          slsW v1 none (some t24) fun t25 =>
      J2 [t20, t25] w1.drew) ∧
         (
          slsW v1 none (some t24) fun t25 =>
      J2 [t20, t25] w1.drew)) ∧
        (
         slsW v1 none (some t24) fun t25 =>
         lensW v0 fun t18 =>
         minW t18 (.int .i64 300) fun t19 =>
         slsW v0 none (some t19) fun t20 =>
      J2 [t20, t25] w1.drew))) ∧
      (
       lensW v0 fun t18 =>
       minW t18 (.int .i64 300) fun t19 =>
       (
        slsW v0 none (some t19) fun t20 =>
        (
         (
          lensW v1 fun t23 =>
          minW t23 (.int .i64 10) fun t24 =>
          slsW v1 none (some t24) fun t25 =>
      J2 [t20, t25] w1.drew) ∧
         (
          lensW v1 fun t23 =>
          minW t23 (.int .i64 10) fun t24 =>
          slsW v1 none (some t24) fun t25 =>
      J2 [t20, t25] w1.drew)) ∧
        (
         lensW v1 fun t23 =>
         minW t23 (.int .i64 10) fun t24 =>
         (
          slsW v1 none (some t24) fun t25 =>
      J2 [t20, t25] w1.drew) ∧
         (
          slsW v1 none (some t24) fun t25 =>
      J2 [t20, t25] w1.drew)) ∧
        (
         (
          lensW v1 fun t23 =>
          minW t23 (.int .i64 10) fun t24 =>
          slsW v1 none (some t24) fun t25 =>
      J2 [t20, t25] w1.drew) ∧
         (
          lensW v1 fun t23 =>
          minW t23 (.int .i64 10) fun t24 =>
          slsW v1 none (some t24) fun t25 =>
      J2 [t20, t25] w1.drew))) ∧
       (
        (
         slsW v0 none (some t19) fun t20 =>
         (
          lensW v1 fun t23 =>
          minW t23 (.int .i64 10) fun t24 =>
          slsW v1 none (some t24) fun t25 =>
      J2 [t20, t25] w1.drew) ∧
         (
          lensW v1 fun t23 =>
          minW t23 (.int .i64 10) fun t24 =>
          slsW v1 none (some t24) fun t25 =>
      J2 [t20, t25] w1.drew)) ∧
        (
         lensW v1 fun t23 =>
         minW t23 (.int .i64 10) fun t24 =>
         slsW v1 none (some t24) fun t25 =>
         slsW v0 none (some t19) fun t20 =>
      J2 [t20, t25] w1.drew)) ∧
       (
        lensW v1 fun t23 =>
        minW t23 (.int .i64 10) fun t24 =>
        (
         slsW v0 none (some t19) fun t20 =>
         (
          slsW v1 none (some t24) fun t25 =>
      J2 [t20, t25] w1.drew) ∧
         (
          slsW v1 none (some t24) fun t25 =>
      J2 [t20, t25] w1.drew)) ∧
        (
         slsW v1 none (some t24) fun t25 =>
         slsW v0 none (some t19) fun t20 =>
      J2 [t20, t25] w1.drew))) ∧
      (
       (
        (
         lensW v0 fun t18 =>
         minW t18 (.int .i64 300) fun t19 =>
         slsW v0 none (some t19) fun t20 =>
         (
          lensW v1 fun t23 =>
          minW t23 (.int .i64 10) fun t24 =>
          slsW v1 none (some t24) fun t25 =>
      J2 [t20, t25] w1.drew) ∧
         (
          lensW v1 fun t23 =>
          minW t23 (.int .i64 10) fun t24 =>
          slsW v1 none (some t24) fun t25 =>
      J2 [t20, t25] w1.drew)) ∧
        (
         lensW v1 fun t23 =>
         minW t23 (.int .i64 10) fun t24 =>
         slsW v1 none (some t24) fun t25 =>
         lensW v0 fun t18 =>
         minW t18 (.int .i64 300) fun t19 =>
         slsW v0 none (some t19) fun t20 =>
      J2 [t20, t25] w1.drew)) ∧
       (
        lensW v0 fun t18 =>
        minW t18 (.int .i64 300) fun t19 =>
        (
         slsW v0 none (some t19) fun t20 =>
         (
          lensW v1 fun t23 =>
          minW t23 (.int .i64 10) fun t24 =>
          slsW v1 none (some t24) fun t25 =>
      J2 [t20, t25] w1.drew) ∧
         (
          lensW v1 fun t23 =>
          minW t23 (.int .i64 10) fun t24 =>
          slsW v1 none (some t24) fun t25 =>
      J2 [t20, t25] w1.drew)) ∧
        (
         lensW v1 fun t23 =>
         minW t23 (.int .i64 10) fun t24 =>
         slsW v1 none (some t24) fun t25 =>
         slsW v0 none (some t19) fun t20 =>
      J2 [t20, t25] w1.drew)) ∧
       (
        lensW v1 fun t23 =>
        minW t23 (.int .i64 10) fun t24 =>
        slsW v1 none (some t24) fun t25 =>
        (
         lensW v0 fun t18 =>
         minW t18 (.int .i64 300) fun t19 =>
         slsW v0 none (some t19) fun t20 =>
      J2 [t20, t25] w1.drew) ∧
        (
         lensW v0 fun t18 =>
         minW t18 (.int .i64 300) fun t19 =>
         slsW v0 none (some t19) fun t20 =>
      J2 [t20, t25] w1.drew))) ∧
      (
       lensW v1 fun t23 =>
       minW t23 (.int .i64 10) fun t24 =>
       (
        (
         lensW v0 fun t18 =>
         minW t18 (.int .i64 300) fun t19 =>
         slsW v0 none (some t19) fun t20 =>
         (
          slsW v1 none (some t24) fun t25 =>
      J2 [t20, t25] w1.drew) ∧
         (
          slsW v1 none (some t24) fun t25 =>
      J2 [t20, t25] w1.drew)) ∧
        (
         slsW v1 none (some t24) fun t25 =>
         lensW v0 fun t18 =>
         minW t18 (.int .i64 300) fun t19 =>
         slsW v0 none (some t19) fun t20 =>
      J2 [t20, t25] w1.drew)) ∧
       (
        lensW v0 fun t18 =>
        minW t18 (.int .i64 300) fun t19 =>
        (
         slsW v0 none (some t19) fun t20 =>
         (
          slsW v1 none (some t24) fun t25 =>
      J2 [t20, t25] w1.drew) ∧
         (
          slsW v1 none (some t24) fun t25 =>
      J2 [t20, t25] w1.drew)) ∧
        (
         slsW v1 none (some t24) fun t25 =>
         slsW v0 none (some t19) fun t20 =>
      J2 [t20, t25] w1.drew)) ∧
       (
        slsW v1 none (some t24) fun t25 =>
        (
         lensW v0 fun t18 =>
         minW t18 (.int .i64 300) fun t19 =>
         slsW v0 none (some t19) fun t20 =>
      J2 [t20, t25] w1.drew) ∧
        (
         lensW v0 fun t18 =>
         minW t18 (.int .i64 300) fun t19 =>
         slsW v0 none (some t19) fun t20 =>
      J2 [t20, t25] w1.drew))))
    fun s2 _ w3 =>
    callF Tryz.prog 15 [(s2.getD 0 undef)] w3 fun t27 w4 =>
    allocW 28 [(.int .i64 0), (.bool false), (.string (ofL [])), (.slice none 0 0), (.slice none 0 0)] w4 fun t7 w5 =>
    stW 5 t7 t27 w5 fun w6 =>
    ldW true 5 t7 w6 fun t29 =>
    bslW 28 1 [(.int .i64 0), (.bool false), (.string (ofL [])), (.slice none 0 0), (.slice none 0 0)] [(0, 5, t29)] w6 fun t30 w7 =>
    callV Tryz.prog (.func (.func 16) #[] #[]) [(.string (ofL [114, 101, 118, 101, 114, 115, 101])), t30] w7 fun t31 w8 =>
    allocW 28 [(.int .i64 0), (.bool false), (.string (ofL [])), (.slice none 0 0), (.slice none 0 0)] w8 fun t9 w9 =>
    stW 5 t9 t31 w9 fun w10 =>
    JoinW (fun J11 =>
      callF Tryz.prog 17 [(s2.getD 0 undef)] w10.drew fun t33 w12 =>
      binW .lss t33 (.int .i64 0) fun t34 =>
      GqW (isB t34 true) (fun k13 => k13 (.func (.func 16) #[] #[])) fun t36 =>
      GqW (isB t34 true) (fun k14 => ldW true 5 t9 w12 k14) fun t37 =>
      GqW (isB t34 true) (fun k15 => k15 (.func (.func 16) #[] #[])) fun t40 =>
      GqW (isB t34 true) (fun k16 => ldW true 5 t7 w12 k16) fun t41 =>
      (
       GeW (isB t34 true) w12 (fun k17 => bslW 28 1 [(.int .i64 0), (.bool false), (.string (ofL [])), (.slice none 0 0), (.slice none 0 0)] [(0, 5, t37)] w12 k17) fun t38 w18 =>
       ((isB t34 true) = true → ldW true 5 t7 w18 fun x => x = t41) ∧
       (
        GeW (isB t34 true) w18 (fun k19 => callV Tryz.prog t36 [(.string (ofL [108, 101, 110, 103, 116, 104])), t38] w18 k19) fun t39 w20 =>
        ((isB t34 true) = true → ldW true 5 t7 w20 fun x => x = t41) ∧
        GeW (isB t34 true) w20 (fun k21 => bslW 28 1 [(.int .i64 0), (.bool false), (.string (ofL [])), (.slice none 0 0), (.slice none 0 0)] [(0, 5, t41)] w20 k21) fun t42 w22 =>
        GeW (isB t34 true) w22 (fun k23 => callV Tryz.prog t40 [(.string (ofL [108, 101, 110, 103, 116, 104])), t42] w22 k23) fun t43 w24 =>
        GeW (isB t34 true) w24 (fun k25 => callF Tryz.prog 13 [t39, t43] w24 k25) fun t44 w26 =>
        GqW (isB t34 true) (fun k27 => unW .not t44 k27) fun t45 =>
        GqW (isB t34 true) (fun k28 => k28 t45) fun t46 =>
        GqW (isB t46 false) (fun k29 => k29 (.func (.func 16) #[] #[])) fun t47 =>
        GqW (isB t46 false) (fun k30 => ldW true 5 t9 w26 k30) fun t48 =>
        GqW (isB t46 false) (fun k31 => k31 (s2.getD 0 undef)) fun t52 =>
        GeW (isB t46 false) w26 (fun k32 => bslW 28 1 [(.int .i64 0), (.bool false), (.string (ofL [])), (.slice none 0 0), (.slice none 0 0)] [(0, 5, t48)] w26 k32) fun t49 w33 =>
        GeW (isB t46 false) w33 (fun k34 => callV Tryz.prog t47 [(.string (ofL [114, 101, 118, 101, 114, 115, 101])), t49] w33 k34) fun t50 w35 =>
        GqW (isB t46 false) (fun k36 => partW false 2 1 t50 k36) fun t51 =>
        GqW (isB t46 false) (fun k37 => binW .neq t51 t52 k37) fun t53 =>
        GqW (isB t34 true) (fun k38 => pickW t46 (.bool true) t53 k38) fun t54 =>
        pickW t34 t54 (.bool false) fun t55 =>
      J11 [t55] w35) ∧
       (
        GeW (isB t34 true) w18 (fun k39 => bslW 28 1 [(.int .i64 0), (.bool false), (.string (ofL [])), (.slice none 0 0), (.slice none 0 0)] [(0, 5, t41)] w18 k39) fun t42 w40 =>
        GeW (isB t34 true) w40 (fun k41 => callV Tryz.prog t36 [(.string (ofL [108, 101, 110, 103, 116, 104])), t38] w40 k41) fun t39 w42 =>
        GeW (isB t34 true) w42 (fun k43 => callV Tryz.prog t40 [(.string (ofL [108, 101, 110, 103, 116, 104])), t42] w42 k43) fun t43 w44 =>
        GeW (isB t34 true) w44 (fun k45 => callF Tryz.prog 13 [t39, t43] w44 k45) fun t44 w46 =>
        GqW (isB t34 true) (fun k47 => unW .not t44 k47) fun t45 =>
        GqW (isB t34 true) (fun k48 => k48 t45) fun t46 =>
        GqW (isB t46 false) (fun k49 => k49 (.func (.func 16) #[] #[])) fun t47 =>
        GqW (isB t46 false) (fun k50 => ldW true 5 t9 w46 k50) fun t48 =>
        GqW (isB t46 false) (fun k51 => k51 (s2.getD 0 undef)) fun t52 =>
        GeW (isB t46 false) w46 (fun k52 => bslW 28 1 [(.int .i64 0), (.bool false), (.string (ofL [])), (.slice none 0 0), (.slice none 0 0)] [(0, 5, t48)] w46 k52) fun t49 w53 =>
        GeW (isB t46 false) w53 (fun k54 => callV Tryz.prog t47 [(.string (ofL [114, 101, 118, 101, 114, 115, 101])), t49] w53 k54) fun t50 w55 =>
        GqW (isB t46 false) (fun k56 => partW false 2 1 t50 k56) fun t51 =>
        GqW (isB t46 false) (fun k57 => binW .neq t51 t52 k57) fun t53 =>
        GqW (isB t34 true) (fun k58 => pickW t46 (.bool true) t53 k58) fun t54 =>
        pickW t34 t54 (.bool false) fun t55 =>
      J11 [t55] w55)) ∧
      (
       GeW (isB t34 true) w12 (fun k59 => bslW 28 1 [(.int .i64 0), (.bool false), (.string (ofL [])), (.slice none 0 0), (.slice none 0 0)] [(0, 5, t41)] w12 k59) fun t42 w60 =>
       ((isB t34 true) = true → ldW true 5 t9 w60 fun x => x = t37) ∧
       GeW (isB t34 true) w60 (fun k61 => bslW 28 1 [(.int .i64 0), (.bool false), (.string (ofL [])), (.slice none 0 0), (.slice none 0 0)] [(0, 5, t37)] w60 k61) fun t38 w62 =>
       GeW (isB t34 true) w62 (fun k63 => callV Tryz.prog t36 [(.string (ofL [108, 101, 110, 103, 116, 104])), t38] w62 k63) fun t39 w64 =>
       GeW (isB t34 true) w64 (fun k65 => callV Tryz.prog t40 [(.string (ofL [108, 101, 110, 103, 116, 104])), t42] w64 k65) fun t43 w66 =>
       GeW (isB t34 true) w66 (fun k67 => callF Tryz.prog 13 [t39, t43] w66 k67) fun t44 w68 =>
       GqW (isB t34 true) (fun k69 => unW .not t44 k69) fun t45 =>
       GqW (isB t34 true) (fun k70 => k70 t45) fun t46 =>
       GqW (isB t46 false) (fun k71 => k71 (.func (.func 16) #[] #[])) fun t47 =>
       GqW (isB t46 false) (fun k72 => ldW true 5 t9 w68 k72) fun t48 =>
       GqW (isB t46 false) (fun k73 => k73 (s2.getD 0 undef)) fun t52 =>
       GeW (isB t46 false) w68 (fun k74 => bslW 28 1 [(.int .i64 0), (.bool false), (.string (ofL [])), (.slice none 0 0), (.slice none 0 0)] [(0, 5, t48)] w68 k74) fun t49 w75 =>
       GeW (isB t46 false) w75 (fun k76 => callV Tryz.prog t47 [(.string (ofL [114, 101, 118, 101, 114, 115, 101])), t49] w75 k76) fun t50 w77 =>
       GqW (isB t46 false) (fun k78 => partW false 2 1 t50 k78) fun t51 =>
       GqW (isB t46 false) (fun k79 => binW .neq t51 t52 k79) fun t53 =>
       GqW (isB t34 true) (fun k80 => pickW t46 (.bool true) t53 k80) fun t54 =>
       pickW t34 t54 (.bool false) fun t55 =>
      J11 [t55] w77))
    fun s11 _ w81 =>
    condW (s11.getD 0 undef) (
      K (.bool false) w81) (
      JoinW (fun J82 =>
        ldW true 5 t7 w81.drew fun t58 =>
        ldW true 5 t7 w81.drew fun t65 =>
        (
         bslW 28 1 [(.int .i64 0), (.bool false), (.string (ofL [])), (.slice none 0 0), (.slice none 0 0)] [(0, 5, t58)] w81.drew fun t59 w83 =>
         (ldW true 5 t7 w83 fun x => x = t65) ∧
         (
          callV Tryz.prog (.func (.func 16) #[] #[]) [(.string (ofL [117, 112, 112, 101, 114])), t59] w83 fun t60 w84 =>
          (ldW true 5 t7 w84 fun x => x = t65) ∧
          (
           bslW 28 1 [(.int .i64 0), (.bool false), (.string (ofL [])), (.slice none 0 0), (.slice none 0 0)] [(0, 5, t60)] w84 fun t61 w85 =>
           (ldW true 5 t7 w85 fun x => x = t65) ∧
           (
            callV Tryz.prog (.func (.func 16) #[] #[]) [(.string (ofL [108, 101, 110, 103, 116, 104])), t61] w85 fun t62 w86 =>
            (ldW true 5 t7 w86 fun x => x = t65) ∧
            bslW 28 1 [(.int .i64 0), (.bool false), (.string (ofL [])), (.slice none 0 0), (.slice none 0 0)] [(0, 5, t65)] w86 fun t66 w87 =>
            callV Tryz.prog (.func (.func 16) #[] #[]) [(.string (ofL [108, 111, 119, 101, 114])), t66] w87 fun t67 w88 =>
            bslW 28 1 [(.int .i64 0), (.bool false), (.string (ofL [])), (.slice none 0 0), (.slice none 0 0)] [(0, 5, t67)] w88 fun t68 w89 =>
            callV Tryz.prog (.func (.func 16) #[] #[]) [(.string (ofL [108, 101, 110, 103, 116, 104])), t68] w89 fun t69 w90 =>
            callF Tryz.prog 13 [t62, t69] w90 fun t70 w91 =>
            unW .not t70 fun t71 =>
            GqW (isB t71 false) (fun k92 => k92 (.func (.func 16) #[] #[])) fun t73 =>
            GqW (isB t71 false) (fun k93 => k93 (.func (.func 16) #[] #[])) fun t74 =>
            GqW (isB t71 false) (fun k94 => k94 (.func (.func 16) #[] #[])) fun t75 =>
            GqW (isB t71 false) (fun k95 => ldW true 5 t7 w91 k95) fun t76 =>
            GqW (isB t71 false) (fun k96 => k96 (.func (.func 16) #[] #[])) fun t83 =>
            GqW (isB t71 false) (fun k97 => k97 (.func (.func 16) #[] #[])) fun t84 =>
            GqW (isB t71 false) (fun k98 => ldW true 5 t7 w91 k98) fun t85 =>
            (
             GeW (isB t71 false) w91 (fun k99 => bslW 28 1 [(.int .i64 0), (.bool false), (.string (ofL [])), (.slice none 0 0), (.slice none 0 0)] [(0, 5, t76)] w91 k99) fun t77 w100 =>
             ((isB t71 false) = true → ldW true 5 t7 w100 fun x => x = t85) ∧
             (
              GeW (isB t71 false) w100 (fun k101 => callV Tryz.prog t75 [(.string (ofL [108, 111, 119, 101, 114])), t77] w100 k101) fun t78 w102 =>
              ((isB t71 false) = true → ldW true 5 t7 w102 fun x => x = t85) ∧
              (
               GeW (isB t71 false) w102 (fun k103 => bslW 28 1 [(.int .i64 0), (.bool false), (.string (ofL [])), (.slice none 0 0), (.slice none 0 0)] [(0, 5, t78)] w102 k103) fun t79 w104 =>
               ((isB t71 false) = true → ldW true 5 t7 w104 fun x => x = t85) ∧
               (
                GeW (isB t71 false) w104 (fun k105 => callV Tryz.prog t74 [(.string (ofL [117, 112, 112, 101, 114])), t79] w104 k105) fun t80 w106 =>
                ((isB t71 false) = true → ldW true 5 t7 w106 fun x => x = t85) ∧
                (
                 GeW (isB t71 false) w106 (fun k107 => bslW 28 1 [(.int .i64 0), (.bool false), (.string (ofL [])), (.slice none 0 0), (.slice none 0 0)] [(0, 5, t80)] w106 k107) fun t81 w108 =>
                 ((isB t71 false) = true → ldW true 5 t7 w108 fun x => x = t85) ∧
                 (
                  GeW (isB t71 false) w108 (fun k109 => callV Tryz.prog t73 [(.string (ofL [117, 112, 112, 101, 114])), t81] w108 k109) fun t82 w110 =>
                  ((isB t71 false) = true → ldW true 5 t7 w110 fun x => x = t85) ∧
                  GeW (isB t71 false) w110 (fun k111 => bslW 28 1 [(.int .i64 0), (.bool false), (.string (ofL [])), (.slice none 0 0), (.slice none 0 0)] [(0, 5, t85)] w110 k111) fun t86 w112 =>
                  GeW (isB t71 false) w112 (fun k113 => callV Tryz.prog t84 [(.string (ofL [117, 112, 112, 101, 114])), t86] w112 k113) fun t87 w114 =>
                  GeW (isB t71 false) w114 (fun k115 => bslW 28 1 [(.int .i64 0), (.bool false), (.string (ofL [])), (.slice none 0 0), (.slice none 0 0)] [(0, 5, t87)] w114 k115) fun t88 w116 =>
                  GeW (isB t71 false) w116 (fun k117 => callV Tryz.prog t83 [(.string (ofL [117, 112, 112, 101, 114])), t88] w116 k117) fun t89 w118 =>
                  GeW (isB t71 false) w118 (fun k119 => callF Tryz.prog 13 [t82, t89] w118 k119) fun t90 w120 =>
                  GqW (isB t71 false) (fun k121 => unW .not t90 k121) fun t91 =>
                  pickW t71 (.bool true) t91 fun t92 =>
        J82 [t92] w120) ∧
                 (
                  GeW (isB t71 false) w108 (fun k122 => bslW 28 1 [(.int .i64 0), (.bool false), (.string (ofL [])), (.slice none 0 0), (.slice none 0 0)] [(0, 5, t85)] w108 k122) fun t86 w123 =>
                  GeW (isB t71 false) w123 (fun k124 => callV Tryz.prog t73 [(.string (ofL [117, 112, 112, 101, 114])), t81] w123 k124) fun t82 w125 =>
                  GeW (isB t71 false) w125 (fun k126 => callV Tryz.prog t84 [(.string (ofL [117, 112, 112, 101, 114])), t86] w125 k126) fun t87 w127 =>
                  GeW (isB t71 false) w127 (fun k128 => bslW 28 1 [(.int .i64 0), (.bool false), (.string (ofL [])), (.slice none 0 0), (.slice none 0 0)] [(0, 5, t87)] w127 k128) fun t88 w129 =>
                  GeW (isB t71 false) w129 (fun k130 => callV Tryz.prog t83 [(.string (ofL [117, 112, 112, 101, 114])), t88] w129 k130) fun t89 w131 =>
                  GeW (isB t71 false) w131 (fun k132 => callF Tryz.prog 13 [t82, t89] w131 k132) fun t90 w133 =>
                  GqW (isB t71 false) (fun k134 => unW .not t90 k134) fun t91 =>
                  pickW t71 (.bool true) t91 fun t92 =>
        J82 [t92] w133)) ∧
                (
                 GeW (isB t71 false) w106 (fun k135 => bslW 28 1 [(.int .i64 0), (.bool false), (.string (ofL [])), (.slice none 0 0), (.slice none 0 0)] [(0, 5, t85)] w106 k135) fun t86 w136 =>
                 GeW (isB t71 false) w136 (fun k137 => bslW 28 1 [(.int .i64 0), (.bool false), (.string (ofL [])), (.slice none 0 0), (.slice none 0 0)] [(0, 5, t80)] w136 k137) fun t81 w138 =>
                 GeW (isB t71 false) w138 (fun k139 => callV Tryz.prog t73 [(.string (ofL [117, 112, 112, 101, 114])), t81] w138 k139) fun t82 w140 =>
                 GeW (isB t71 false) w140 (fun k141 => callV Tryz.prog t84 [(.string (ofL [117, 112, 112, 101, 114])), t86] w140 k141) fun t87 w142 =>
                 GeW (isB t71 false) w142 (fun k143 => bslW 28 1 [(.int .i64 0), (.bool false), (.string (ofL [])), (.slice none 0 0), (.slice none 0 0)] [(0, 5, t87)] w142 k143) fun t88 w144 =>
                 GeW (isB t71 false) w144 (fun k145 => callV Tryz.prog t83 [(.string (ofL [117, 112, 112, 101, 114])), t88] w144 k145) fun t89 w146 =>
                 GeW (isB t71 false) w146 (fun k147 => callF Tryz.prog 13 [t82, t89] w146 k147) fun t90 w148 =>
                 GqW (isB t71 false) (fun k149 => unW .not t90 k149) fun t91 =>
                 pickW t71 (.bool true) t91 fun t92 =>
        J82 [t92] w148)) ∧
               (
                GeW (isB t71 false) w104 (fun k150 => bslW 28 1 [(.int .i64 0), (.bool false), (.string (ofL [])), (.slice none 0 0), (.slice none 0 0)] [(0, 5, t85)] w104 k150) fun t86 w151 =>
                GeW (isB t71 false) w151 (fun k152 => callV Tryz.prog t74 [(.string (ofL [117, 112, 112, 101, 114])), t79] w151 k152) fun t80 w153 =>
                GeW (isB t71 false) w153 (fun k154 => bslW 28 1 [(.int .i64 0), (.bool false), (.string (ofL [])), (.slice none 0 0), (.slice none 0 0)] [(0, 5, t80)] w153 k154) fun t81 w155 =>
                GeW (isB t71 false) w155 (fun k156 => callV Tryz.prog t73 [(.string (ofL [117, 112, 112, 101, 114])), t81] w155 k156) fun t82 w157 =>
                GeW (isB t71 false) w157 (fun k158 => callV Tryz.prog t84 [(.string (ofL [117, 112, 112, 101, 114])), t86] w157 k158) fun t87 w159 =>
                GeW (isB t71 false) w159 (fun k160 => bslW 28 1 [(.int .i64 0), (.bool false), (.string (ofL [])), (.slice none 0 0), (.slice none 0 0)] [(0, 5, t87)] w159 k160) fun t88 w161 =>
                GeW (isB t71 false) w161 (fun k162 => callV Tryz.prog t83 [(.string (ofL [117, 112, 112, 101, 114])), t88] w161 k162) fun t89 w163 =>
                GeW (isB t71 false) w163 (fun k164 => callF Tryz.prog 13 [t82, t89] w163 k164) fun t90 w165 =>
                GqW (isB t71 false) (fun k166 => unW .not t90 k166) fun t91 =>
                pickW t71 (.bool true) t91 fun t92 =>
        J82 [t92] w165)) ∧
              (
               GeW (isB t71 false) w102 (fun k167 => bslW 28 1 [(.int .i64 0), (.bool false), (.string (ofL [])), (.slice none 0 0), (.slice none 0 0)] [(0, 5, t85)] w102 k167) fun t86 w168 =>
               GeW (isB t71 false) w168 (fun k169 => bslW 28 1 [(.int .i64 0), (.bool false), (.string (ofL [])), (.slice none 0 0), (.slice none 0 0)] [(0, 5, t78)] w168 k169) fun t79 w170 =>
               GeW (isB t71 false) w170 (fun k171 => callV Tryz.prog t74 [(.string (ofL [117, 112, 112, 101, 114])), t79] w170 k171) fun t80 w172 =>
               GeW (isB t71 false) w172 (fun k173 => bslW 28 1 [(.int .i64 0), (.bool false), (.string (ofL [])), (.slice none 0 0), (.slice none 0 0)] [(0, 5, t80)] w172 k173) fun t81 w174 =>
               GeW (isB t71 false) w174 (fun k175 => callV Tryz.prog t73 [(.string (ofL [117, 112, 112, 101, 114])), t81] w174 k175) fun t82 w176 =>
               GeW (isB t71 false) w176 (fun k177 => callV Tryz.prog t84 [(.string (ofL [117, 112, 112, 101, 114])), t86] w176 k177) fun t87 w178 =>
               GeW (isB t71 false) w178 (fun k179 => bslW 28 1 [(.int .i64 0), (.bool false), (.string (ofL [])), (.slice none 0 0), (.slice none 0 0)] [(0, 5, t87)] w178 k179) fun t88 w180 =>
               GeW (isB t71 false) w180 (fun k181 => callV Tryz.prog t83 [(.string (ofL [117, 112, 112, 101, 114])), t88] w180 k181) fun t89 w182 =>
               GeW (isB t71 false) w182 (fun k183 => callF Tryz.prog 13 [t82, t89] w182 k183) fun t90 w184 =>
               GqW (isB t71 false) (fun k185 => unW .not t90 k185) fun t91 =>
               pickW t71 (.bool true) t91 fun t92 =>
        J82 [t92] w184)) ∧
             (
              GeW (isB t71 false) w100 (fun k186 => bslW 28 1 [(.int .i64 0), (.bool false), (.string (ofL [])), (.slice none 0 0), (.slice none 0 0)] [(0, 5, t85)] w100 k186) fun t86 w187 =>
              GeW (isB t71 false) w187 (fun k188 => callV Tryz.prog t75 [(.string (ofL [108, 111, 119, 101, 114])), t77] w187 k188) fun t78 w189 =>
              GeW (isB t71 false) w189 (fun k190 => bslW 28 1 [(.int .i64 0), (.bool false), (.string (ofL [])), (.slice none 0 0), (.slice none 0 0)] [(0, 5, t78)] w189 k190) fun t79 w191 =>
              GeW (isB t71 false) w191 (fun k192 => callV Tryz.prog t74 [(.string (ofL [117, 112, 112, 101, 114])), t79] w191 k192) fun t80 w193 =>
              GeW (isB t71 false) w193 (fun k194 => bslW 28 1 [(.int .i64 0), (.bool false), (.string (ofL [])), (.slice none 0 0), (.slice none 0 0)] [(0, 5, t80)] w193 k194) fun t81 w195 =>
              GeW (isB t71 false) w195 (fun k196 => callV Tryz.prog t73 [(.string (ofL [117, 112, 112, 101, 114])), t81] w195 k196) fun t82 w197 =>
              GeW (isB t71 false) w197 (fun k198 => callV Tryz.prog t84 [(.string (ofL [117, 112, 112, 101, 114])), t86] w197 k198) fun t87 w199 =>
              GeW (isB t71 false) w199 (fun k200 => bslW 28 1 [(.int .i64 0), (.bool false), (.string (ofL [])), (.slice none 0 0), (.slice none 0 0)] [(0, 5, t87)] w199 k200) fun t88 w201 =>
              GeW (isB t71 false) w201 (fun k202 => callV Tryz.prog t83 [(.string (ofL [117, 112, 112, 101, 114])), t88] w201 k202) fun t89 w203 =>
              GeW (isB t71 false) w203 (fun k204 => callF Tryz.prog 13 [t82, t89] w203 k204) fun t90 w205 =>
              GqW (isB t71 false) (fun k206 => unW .not t90 k206) fun t91 =>
              pickW t71 (.bool true) t91 fun t92 =>
        J82 [t92] w205)) ∧
            (
             GeW (isB t71 false) w91 (fun k207 => bslW 28 1 [(.int .i64 0), (.bool false), (.string (ofL [])), (.slice none 0 0), (.slice none 0 0)] [(0, 5, t85)] w91 k207) fun t86 w208 =>
             ((isB t71 false) = true → ldW true 5 t7 w208 fun x => x = t76) ∧
             GeW (isB t71 false) w208 (fun k209 => bslW 28 1 [(.int .i64 0), (.bool false), (.string (ofL [])), (.slice none 0 0), (.slice none 0 0)] [(0, 5, t76)] w208 k209) fun t77 w210 =>
             GeW (isB t71 false) w210 (fun k211 => callV Tryz.prog t75 [(.string (ofL [108, 111, 119, 101, 114])), t77] w210 k211) fun t78 w212 =>
             GeW (isB t71 false) w212 (fun k213 => bslW 28 1 [(.int .i64 0), (.bool false), (.string (ofL [])), (.slice none 0 0), (.slice none 0 0)] [(0, 5, t78)] w212 k213) fun t79 w214 =>
             GeW (isB t71 false) w214 (fun k215 => callV Tryz.prog t74 [(.string (ofL [117, 112, 112, 101, 114])), t79] w214 k215) fun t80 w216 =>
             GeW (isB t71 false) w216 (fun k217 => bslW 28 1 [(.int .i64 0), (.bool false), (.string (ofL [])), (.slice none 0 0), (.slice none 0 0)] [(0, 5, t80)] w216 k217) fun t81 w218 =>
             GeW (isB t71 false) w218 (fun k219 => callV Tryz.prog t73 [(.string (ofL [117, 112, 112, 101, 114])), t81] w218 k219) fun t82 w220 =>
             GeW (isB t71 false) w220 (fun k221 => callV Tryz.prog t84 [(.string (ofL [117, 112, 112, 101, 114])), t86] w220 k221) fun t87 w222 =>
             GeW (isB t71 false) w222 (fun k223 => bslW 28 1 [(.int .i64 0), (.bool false), (.string (ofL [])), (.slice none 0 0), (.slice none 0 0)] [(0, 5, t87)] w222 k223) fun t88 w224 =>
             GeW (isB t71 false) w224 (fun k225 => callV Tryz.prog t83 [(.string (ofL [117, 112, 112, 101, 114])), t88] w224 k225) fun t89 w226 =>
             GeW (isB t71 false) w226 (fun k227 => callF Tryz.prog 13 [t82, t89] w226 k227) fun t90 w228 =>
             GqW (isB t71 false) (fun k229 => unW .not t90 k229) fun t91 =>
             pickW t71 (.bool true) t91 fun t92 =>
        J82 [t92] w228)) ∧
           (
            bslW 28 1 [(.int .i64 0), (.bool false), (.string (ofL [])), (.slice none 0 0), (.slice none 0 0)] [(0, 5, t65)] w85 fun t66 w230 =>
            callV Tryz.prog (.func (.func 16) #[] #[]) [(.string (ofL [108, 101, 110, 103, 116, 104])), t61] w230 fun t62 w231 =>
            callV Tryz.prog (.func (.func 16) #[] #[]) [(.string (ofL [108, 111, 119, 101, 114])), t66] w231 fun t67 w232 =>
            bslW 28 1 [(.int .i64 0), (.bool false), (.string (ofL [])), (.slice none 0 0), (.slice none 0 0)] [(0, 5, t67)] w232 fun t68 w233 =>
            callV Tryz.prog (.func (.func 16) #[] #[]) [(.string (ofL [108, 101, 110, 103, 116, 104])), t68] w233 fun t69 w234 =>
            callF Tryz.prog 13 [t62, t69] w234 fun t70 w235 =>
            unW .not t70 fun t71 =>
            GqW (isB t71 false) (fun k236 => k236 (.func (.func 16) #[] #[])) fun t73 =>
            GqW (isB t71 false) (fun k237 => k237 (.func (.func 16) #[] #[])) fun t74 =>
            GqW (isB t71 false) (fun k238 => k238 (.func (.func 16) #[] #[])) fun t75 =>
            GqW (isB t71 false) (fun k239 => ldW true 5 t7 w235 k239) fun t76 =>
            GqW (isB t71 false) (fun k240 => k240 (.func (.func 16) #[] #[])) fun t83 =>
            GqW (isB t71 false) (fun k241 => k241 (.func (.func 16) #[] #[])) fun t84 =>
            GqW (isB t71 false) (fun k242 => ldW true 5 t7 w235 k242) fun t85 =>
            (
             GeW (isB t71 false) w235 (fun k243 => bslW 28 1 [(.int .i64 0), (.bool false), (.string (ofL [])), (.slice none 0 0), (.slice none 0 0)] [(0, 5, t76)] w235 k243) fun t77 w244 =>
             ((isB t71 false) = true → ldW true 5 t7 w244 fun x => x = t85) ∧
             (
              GeW (isB t71 false) w244 (fun k245 => callV Tryz.prog t75 [(.string (ofL [108, 111, 119, 101, 114])), t77] w244 k245) fun t78 w246 =>
              ((isB t71 false) = true → ldW true 5 t7 w246 fun x => x = t85) ∧
              (
               GeW (isB t71 false) w246 (fun k247 => bslW 28 1 [(.int .i64 0), (.bool false), (.string (ofL [])), (.slice none 0 0), (.slice none 0 0)] [(0, 5, t78)] w246 k247) fun t79 w248 =>
               ((isB t71 false) = true → ldW true 5 t7 w248 fun x => x = t85) ∧
               (
                GeW (isB t71 false) w248 (fun k249 => callV Tryz.prog t74 [(.string (ofL [117, 112, 112, 101, 114])), t79] w248 k249) fun t80 w250 =>
                ((isB t71 false) = true → ldW true 5 t7 w250 fun x => x = t85) ∧
                (
                 GeW (isB t71 false) w250 (fun k251 => bslW 28 1 [(.int .i64 0), (.bool false), (.string (ofL [])), (.slice none 0 0), (.slice none 0 0)] [(0, 5, t80)] w250 k251) fun t81 w252 =>
                 ((isB t71 false) = true → ldW true 5 t7 w252 fun x => x = t85) ∧
                 (
                  GeW (isB t71 false) w252 (fun k253 => callV Tryz.prog t73 [(.string (ofL [117, 112, 112, 101, 114])), t81] w252 k253) fun t82 w254 =>
                  ((isB t71 false) = true → ldW true 5 t7 w254 fun x => x = t85) ∧
                  GeW (isB t71 false) w254 (fun k255 => bslW 28 1 [(.int .i64 0), (.bool false), (.string (ofL [])), (.slice none 0 0), (.slice none 0 0)] [(0, 5, t85)] w254 k255) fun t86 w256 =>
                  GeW (isB t71 false) w256 (fun k257 => callV Tryz.prog t84 [(.string (ofL [117, 112, 112, 101, 114])), t86] w256 k257) fun t87 w258 =>
                  GeW (isB t71 false) w258 (fun k259 => bslW 28 1 [(.int .i64 0), (.bool false), (.string (ofL [])), (.slice none 0 0), (.slice none 0 0)] [(0, 5, t87)] w258 k259) fun t88 w260 =>
                  GeW (isB t71 false) w260 (fun k261 => callV Tryz.prog t83 [(.string (ofL [117, 112, 112, 101, 114])), t88] w260 k261) fun t89 w262 =>
                  GeW (isB t71 false) w262 (fun k263 => callF Tryz.prog 13 [t82, t89] w262 k263) fun t90 w264 =>
                  GqW (isB t71 false) (fun k265 => unW .not t90 k265) fun t91 =>
                  pickW t71 (.bool true) t91 fun t92 =>
        J82 [t92] w264) ∧
                 (
                  GeW (isB t71 false) w252 (fun k266 => bslW 28 1 [(.int .i64 0), (.bool false), (.string (ofL [])), (.slice none 0 0), (.slice none 0 0)] [(0, 5, t85)] w252 k266) fun t86 w267 =>
                  GeW (isB t71 false) w267 (fun k268 => callV Tryz.prog t73 [(.string (ofL [117, 112, 112, 101, 114])), t81] w267 k268) fun t82 w269 =>
                  GeW (isB t71 false) w269 (fun k270 => callV Tryz.prog t84 [(.string (ofL [117, 112, 112, 101, 114])), t86] w269 k270) fun t87 w271 =>
                  GeW (isB t71 false) w271 (fun k272 => bslW 28 1 [(.int .i64 0), (.bool false), (.string (ofL [])), (.slice none 0 0), (.slice none 0 0)] [(0, 5, t87)] w271 k272) fun t88 w273 =>
                  GeW (isB t71 false) w273 (fun k274 => callV Tryz.prog t83 [(.string (ofL [117, 112, 112, 101, 114])), t88] w273 k274) fun t89 w275 =>
                  GeW (isB t71 false) w275 (fun k276 => callF Tryz.prog 13 [t82, t89] w275 k276) fun t90 w277 =>
                  GqW (isB t71 false) (fun k278 => unW .not t90 k278) fun t91 =>
                  pickW t71 (.bool true) t91 fun t92 =>
        J82 [t92] w277)) ∧
                (
                 GeW (isB t71 false) w250 (fun k279 => bslW 28 1 [(.int .i64 0), (.bool false), (.string (ofL [])), (.slice none 0 0), (.slice none 0 0)] [(0, 5, t85)] w250 k279) fun t86 w280 =>
                 GeW (isB t71 false) w280 (fun k281 => bslW 28 1 [(.int .i64 0), (.bool false), (.string (ofL [])), (.slice none 0 0), (.slice none 0 0)] [(0, 5, t80)] w280 k281) fun t81 w282 =>
                 GeW (isB t71 false) w282 (fun k283 => callV Tryz.prog t73 [(.string (ofL [117, 112, 112, 101, 114])), t81] w282 k283) fun t82 w284 =>
                 GeW (isB t71 false) w284 (fun k285 => callV Tryz.prog t84 [(.string (ofL [117, 112, 112, 101, 114])), t86] w284 k285) fun t87 w286 =>
                 GeW (isB t71 false) w286 (fun k287 => bslW 28 1 [(.int .i64 0), (.bool false), (.string (ofL [])), (.slice none 0 0), (.slice none 0 0)] [(0, 5, t87)] w286 k287) fun t88 w288 =>
                 GeW (isB t71 false) w288 (fun k289 => callV Tryz.prog t83 [(.string (ofL [117, 112, 112, 101, 114])), t88] w288 k289) fun t89 w290 =>
                 GeW (isB t71 false) w290 (fun k291 => callF Tryz.prog 13 [t82, t89] w290 k291) fun t90 w292 =>
                 GqW (isB t71 false) (fun k293 => unW .not t90 k293) fun t91 =>
                 pickW t71 (.bool true) t91 fun t92 =>
        J82 [t92] w292)) ∧
               (
                GeW (isB t71 false) w248 (fun k294 => bslW 28 1 [(.int .i64 0), (.bool false), (.string (ofL [])), (.slice none 0 0), (.slice none 0 0)] [(0, 5, t85)] w248 k294) fun t86 w295 =>
                GeW (isB t71 false) w295 (fun k296 => callV Tryz.prog t74 [(.string (ofL [117, 112, 112, 101, 114])), t79] w295 k296) fun t80 w297 =>
                GeW (isB t71 false) w297 (fun k298 => bslW 28 1 [(.int .i64 0), (.bool false), (.string (ofL [])), (.slice none 0 0), (.slice none 0 0)] [(0, 5, t80)] w297 k298) fun t81 w299 =>
                GeW (isB t71 false) w299 (fun k300 => callV Tryz.prog t73 [(.string (ofL [117, 112, 112, 101, 114])), t81] w299 k300) fun t82 w301 =>
                GeW (isB t71 false) w301 (fun k302 => callV Tryz.prog t84 [(.string (ofL [117, 112, 112, 101, 114])), t86] w301 k302) fun t87 w303 =>
                GeW (isB t71 false) w303 (fun k304 => bslW 28 1 [(.int .i64 0), (.bool false), (.string (ofL [])), (.slice none 0 0), (.slice none 0 0)] [(0, 5, t87)] w303 k304) fun t88 w305 =>
                GeW (isB t71 false) w305 (fun k306 => callV Tryz.prog t83 [(.string (ofL [117, 112, 112, 101, 114])), t88] w305 k306) fun t89 w307 =>
                GeW (isB t71 false) w307 (fun k308 => callF Tryz.prog 13 [t82, t89] w307 k308) fun t90 w309 =>
                GqW (isB t71 false) (fun k310 => unW .not t90 k310) fun t91 =>
                pickW t71 (.bool true) t91 fun t92 =>
        J82 [t92] w309)) ∧
              (
               GeW (isB t71 false) w246 (fun k311 => bslW 28 1 [(.int .i64 0), (.bool false), (.string (ofL [])), (.slice none 0 0), (.slice none 0 0)] [(0, 5, t85)] w246 k311) fun t86 w312 =>
               GeW (isB t71 false) w312 (fun k313 => bslW 28 1 [(.int .i64 0), (.bool false), (.string (ofL [])), (.slice none 0 0), (.slice none 0 0)] [(0, 5, t78)] w312 k313) fun t79 w314 =>
               GeW (isB t71 false) w314 (fun k315 => callV Tryz.prog t74 [(.string (ofL [117, 112, 112, 101, 114])), t79] w314 k315) fun t80 w316 =>
               GeW (isB t71 false) w316 (fun k317 => bslW 28 1 [(.int .i64 0), (.bool false), (.string (ofL [])), (.slice none 0 0), (.slice none 0 0)] [(0, 5, t80)] w316 k317) fun t81 w318 =>
               GeW (isB t71 false) w318 (fun k319 => callV Tryz.prog t73 [(.string (ofL [117, 112, 112, 101, 114])), t81] w318 k319) fun t82 w320 =>
               GeW (isB t71 false) w320 (fun k321 => callV Tryz.prog t84 [(.string (ofL [117, 112, 112, 101, 114])), t86] w320 k321) fun t87 w322 =>
               GeW (isB t71 false) w322 (fun k323 => bslW 28 1 [(.int .i64 0), (.bool false), (.string (ofL [])), (.slice none 0 0), (.slice none 0 0)] [(0, 5, t87)] w322 k323) fun t88 w324 =>
               GeW (isB t71 false) w324 (fun k325 => callV Tryz.prog t83 [(.string (ofL [117, 112, 112, 101, 114])), t88] w324 k325) fun t89 w326 =>
               GeW (isB t71 false) w326 (fun k327 => callF Tryz.prog 13 [t82, t89] w326 k327) fun t90 w328 =>
               GqW (isB t71 false) (fun k329 => unW .not t90 k329) fun t91 =>
               pickW t71 (.bool true) t91 fun t92 =>
        J82 [t92] w328)) ∧
             (
              GeW (isB t71 false) w244 (fun k330 => bslW 28 1 [(.int .i64 0), (.bool false), (.string (ofL [])), (.slice none 0 0), (.slice none 0 0)] [(0, 5, t85)] w244 k330) fun t86 w331 =>
              GeW (isB t71 false) w331 (fun k332 => callV Tryz.prog t75 [(.string (ofL [108, 111, 119, 101, 114])), t77] w331 k332) fun t78 w333 =>
              GeW (isB t71 false) w333 (fun k334 => bslW 28 1 [(.int .i64 0), (.bool false), (.string (ofL [])), (.slice none 0 0), (.slice none 0 0)] [(0, 5, t78)] w333 k334) fun t79 w335 =>
              GeW (isB t71 false) w335 (fun k336 => callV Tryz.prog t74 [(.string (ofL [117, 112, 112, 101, 114])), t79] w335 k336) fun t80 w337 =>
              GeW (isB t71 false) w337 (fun k338 => bslW 28 1 [(.int .i64 0), (.bool false), (.string (ofL [])), (.slice none 0 0), (.slice none 0 0)] [(0, 5, t80)] w337 k338) fun t81 w339 =>
              GeW (isB t71 false) w339 (fun k340 => callV Tryz.prog t73 [(.string (ofL [117, 112, 112, 101, 114])), t81] w339 k340) fun t82 w341 =>
              GeW (isB t71 false) w341 (fun k342 => callV Tryz.prog t84 [(.string (ofL [117, 112, 112, 101, 114])), t86] w341 k342) fun t87 w343 =>
              GeW (isB t71 false) w343 (fun k344 => bslW 28 1 [(.int .i64 0), (.bool false), (.string (ofL [])), (.slice none 0 0), (.slice none 0 0)] [(0, 5, t87)] w343 k344) fun t88 w345 =>
              GeW (isB t71 false) w345 (fun k346 => callV Tryz.prog t83 [(.string (ofL [117, 112, 112, 101, 114])), t88] w345 k346) fun t89 w347 =>
              GeW (isB t71 false) w347 (fun k348 => callF Tryz.prog 13 [t82, t89] w347 k348) fun t90 w349 =>
              GqW (isB t71 false) (fun k350 => unW .not t90 k350) fun t91 =>
              pickW t71 (.bool true) t91 fun t92 =>
        J82 [t92] w349)) ∧
            (
             GeW (isB t71 false) w235 (fun k351 => bslW 28 1 [(.int .i64 0), (.bool false), (.string (ofL [])), (.slice none 0 0), (.slice none 0 0)] [(0, 5, t85)] w235 k351) fun t86 w352 =>
             ((isB t71 false) = true → ldW true 5 t7 w352 fun x => x = t76) ∧
             GeW (isB t71 false) w352 (fun k353 => bslW 28 1 [(.int .i64 0), (.bool false), (.string (ofL [])), (.slice none 0 0), (.slice none 0 0)] [(0, 5, t76)] w352 k353) fun t77 w354 =>
             GeW (isB t71 false) w354 (fun k355 => callV Tryz.prog t75 [(.string (ofL [108, 111, 119, 101, 114])), t77] w354 k355) fun t78 w356 =>
             GeW (isB t71 false) w356 (fun k357 => bslW 28 1 [(.int .i64 0), (.bool false), (.string (ofL [])), (.slice none 0 0), (.slice none 0 0)] [(0, 5, t78)] w356 k357) fun t79 w358 =>
             GeW (isB t71 false) w358 (fun k359 => callV Tryz.prog t74 [(.string (ofL [117, 112, 112, 101, 114])), t79] w358 k359) fun t80 w360 =>
             GeW (isB t71 false) w360 (fun k361 => bslW 28 1 [(.int .i64 0), (.bool false), (.string (ofL [])), (.slice none 0 0), (.slice none 0 0)] [(0, 5, t80)] w360 k361) fun t81 w362 =>
             GeW (isB t71 false) w362 (fun k363 => callV Tryz.prog t73 [(.string (ofL [117, 112, 112, 101, 114])), t81] w362 k363) fun t82 w364 =>
             GeW (isB t71 false) w364 (fun k365 => callV Tryz.prog t84 [(.string (ofL [117, 112, 112, 101, 114])), t86] w364 k365) fun t87 w366 =>
             GeW (isB t71 false) w366 (fun k367 => bslW 28 1 [(.int .i64 0), (.bool false), (.string (ofL [])), (.slice none 0 0), (.slice none 0 0)] [(0, 5, t87)] w366 k367) fun t88 w368 =>
             GeW (isB t71 false) w368 (fun k369 => callV Tryz.prog t83 [(.string (ofL [117, 112, 112, 101, 114])), t88] w368 k369) fun t89 w370 =>
             GeW (isB t71 false) w370 (fun k371 => callF Tryz.prog 13 [t82, t89] w370 k371) fun t90 w372 =>
             GqW (isB t71 false) (fun k373 => unW .not t90 k373) fun t91 =>
             pickW t71 (.bool true) t91 fun t92 =>
        J82 [t92] w372))) ∧
          (
           bslW 28 1 [(.int .i64 0), (.bool false), (.string (ofL [])), (.slice none 0 0), (.slice none 0 0)] [(0, 5, t65)] w84 fun t66 w374 =>
           bslW 28 1 [(.int .i64 0), (.bool false), (.string (ofL [])), (.slice none 0 0), (.slice none 0 0)] [(0, 5, t60)] w374 fun t61 w375 =>
           callV Tryz.prog (.func (.func 16) #[] #[]) [(.string (ofL [108, 101, 110, 103, 116, 104])), t61] w375 fun t62 w376 =>
           callV Tryz.prog (.func (.func 16) #[] #[]) [(.string (ofL [108, 111, 119, 101, 114])), t66] w376 fun t67 w377 =>
           bslW 28 1 [(.int .i64 0), (.bool false), (.string (ofL [])), (.slice none 0 0), (.slice none 0 0)] [(0, 5, t67)] w377 fun t68 w378 =>
           callV Tryz.prog (.func (.func 16) #[] #[]) [(.string (ofL [108, 101, 110, 103, 116, 104])), t68] w378 fun t69 w379 =>
           callF Tryz.prog 13 [t62, t69] w379 fun t70 w380 =>
           unW .not t70 fun t71 =>
           GqW (isB t71 false) (fun k381 => k381 (.func (.func 16) #[] #[])) fun t73 =>
           GqW (isB t71 false) (fun k382 => k382 (.func (.func 16) #[] #[])) fun t74 =>
           GqW (isB t71 false) (fun k383 => k383 (.func (.func 16) #[] #[])) fun t75 =>
           GqW (isB t71 false) (fun k384 => ldW true 5 t7 w380 k384) fun t76 =>
           GqW (isB t71 false) (fun k385 => k385 (.func (.func 16) #[] #[])) fun t83 =>
           GqW (isB t71 false) (fun k386 => k386 (.func (.func 16) #[] #[])) fun t84 =>
           GqW (isB t71 false) (fun k387 => ldW true 5 t7 w380 k387) fun t85 =>
           (
            GeW (isB t71 false) w380 (fun k388 => bslW 28 1 [(.int .i64 0), (.bool false), (.string (ofL [])), (.slice none 0 0), (.slice none 0 0)] [(0, 5, t76)] w380 k388) fun t77 w389 =>
            ((isB t71 false) = true → ldW true 5 t7 w389 fun x => x = t85) ∧
            (
             GeW (isB t71 false) w389 (fun k390 => callV Tryz.prog t75 [(.string (ofL [108, 111, 119, 101, 114])), t77] w389 k390) fun t78 w391 =>
             ((isB t71 false) = true → ldW true 5 t7 w391 fun x => x = t85) ∧
             (
              GeW (isB t71 false) w391 (fun k392 => bslW 28 1 [(.int .i64 0), (.bool false), (.string (ofL [])), (.slice none 0 0), (.slice none 0 0)] [(0, 5, t78)] w391 k392) fun t79 w393 =>
              ((isB t71 false) = true → ldW true 5 t7 w393 fun x => x = t85) ∧
              (
               GeW (isB t71 false) w393 (fun k394 => callV Tryz.prog t74 [(.string (ofL [117, 112, 112, 101, 114])), t79] w393 k394) fun t80 w395 =>
               ((isB t71 false) = true → ldW true 5 t7 w395 fun x => x = t85) ∧
               (
                GeW (isB t71 false) w395 (fun k396 => bslW 28 1 [(.int .i64 0), (.bool false), (.string (ofL [])), (.slice none 0 0), (.slice none 0 0)] [(0, 5, t80)] w395 k396) fun t81 w397 =>
                ((isB t71 false) = true → ldW true 5 t7 w397 fun x => x = t85) ∧
                (
                 GeW (isB t71 false) w397 (fun k398 => callV Tryz.prog t73 [(.string (ofL [117, 112, 112, 101, 114])), t81] w397 k398) fun t82 w399 =>
                 ((isB t71 false) = true → ldW true 5 t7 w399 fun x => x = t85) ∧
                 GeW (isB t71 false) w399 (fun k400 => bslW 28 1 [(.int .i64 0), (.bool false), (.string (ofL [])), (.slice none 0 0), (.slice none 0 0)] [(0, 5, t85)] w399 k400) fun t86 w401 =>
                 GeW (isB t71 false) w401 (fun k402 => callV Tryz.prog t84 [(.string (ofL [117, 112, 112, 101, 114])), t86] w401 k402) fun t87 w403 =>
                 GeW (isB t71 false) w403 (fun k404 => bslW 28 1 [(.int .i64 0), (.bool false), (.string (ofL [])), (.slice none 0 0), (.slice none 0 0)] [(0, 5, t87)] w403 k404) fun t88 w405 =>
                 GeW (isB t71 false) w405 (fun k406 => callV Tryz.prog t83 [(.string (ofL [117, 112, 112, 101, 114])), t88] w405 k406) fun t89 w407 =>
                 GeW (isB t71 false) w407 (fun k408 => callF Tryz.prog 13 [t82, t89] w407 k408) fun t90 w409 =>
                 GqW (isB t71 false) (fun k410 => unW .not t90 k410) fun t91 =>
                 pickW t71 (.bool true) t91 fun t92 =>
        J82 [t92] w409) ∧
                (
                 GeW (isB t71 false) w397 (fun k411 => bslW 28 1 [(.int .i64 0), (.bool false), (.string (ofL [])), (.slice none 0 0), (.slice none 0 0)] [(0, 5, t85)] w397 k411) fun t86 w412 =>
                 GeW (isB t71 false) w412 (fun k413 => callV Tryz.prog t73 [(.string (ofL [117, 112, 112, 101, 114])), t81] w412 k413) fun t82 w414 =>
                 GeW (isB t71 false) w414 (fun k415 => callV Tryz.prog t84 [(.string (ofL [117, 112, 112, 101, 114])), t86] w414 k415) fun t87 w416 =>
                 GeW (isB t71 false) w416 (fun k417 => bslW 28 1 [(.int .i64 0), (.bool false), (.string (ofL [])), (.slice none 0 0), (.slice none 0 0)] [(0, 5, t87)] w416 k417) fun t88 w418 =>
                 GeW (isB t71 false) w418 (fun k419 => callV Tryz.prog t83 [(.string (ofL [117, 112, 112, 101, 114])), t88] w418 k419) fun t89 w420 =>
                 GeW (isB t71 false) w420 (fun k421 => callF Tryz.prog 13 [t82, t89] w420 k421) fun t90 w422 =>
                 GqW (isB t71 false) (fun k423 => unW .not t90 k423) fun t91 =>
                 pickW t71 (.bool true) t91 fun t92 =>
        J82 [t92] w422)) ∧
               (
                GeW (isB t71 false) w395 (fun k424 => bslW 28 1 [(.int .i64 0), (.bool false), (.string (ofL [])), (.slice none 0 0), (.slice none 0 0)] [(0, 5, t85)] w395 k424) fun t86 w425 =>
                GeW (isB t71 false) w425 (fun k426 => bslW 28 1 [(.int .i64 0), (.bool false), (.string (ofL [])), (.slice none 0 0), (.slice none 0 0)] [(0, 5, t80)] w425 k426) fun t81 w427 =>
                GeW (isB t71 false) w427 (fun k428 => callV Tryz.prog t73 [(.string (ofL [117, 112, 112, 101, 114])), t81] w427 k428) fun t82 w429 =>
                GeW (isB t71 false) w429 (fun k430 => callV Tryz.prog t84 [(.string (ofL [117, 112, 112, 101, 114])), t86] w429 k430) fun t87 w431 =>
                GeW (isB t71 false) w431 (fun k432 => bslW 28 1 [(.int .i64 0), (.bool false), (.string (ofL [])), (.slice none 0 0), (.slice none 0 0)] [(0, 5, t87)] w431 k432) fun t88 w433 =>
                GeW (isB t71 false) w433 (fun k434 => callV Tryz.prog t83 [(.string (ofL [117, 112, 112, 101, 114])), t88] w433 k434) fun t89 w435 =>
                GeW (isB t71 false) w435 (fun k436 => callF Tryz.prog 13 [t82, t89] w435 k436) fun t90 w437 =>
                GqW (isB t71 false) (fun k438 => unW .not t90 k438) fun t91 =>
                pickW t71 (.bool true) t91 fun t92 =>
        J82 [t92] w437)) ∧
              (
               GeW (isB t71 false) w393 (fun k439 => bslW 28 1 [(.int .i64 0), (.bool false), (.string (ofL [])), (.slice none 0 0), (.slice none 0 0)] [(0, 5, t85)] w393 k439) fun t86 w440 =>
               GeW (isB t71 false) w440 (fun k441 => callV Tryz.prog t74 [(.string (ofL [117, 112, 112, 101, 114])), t79] w440 k441) fun t80 w442 =>
               GeW (isB t71 false) w442 (fun k443 => bslW 28 1 [(.int .i64 0), (.bool false), (.string (ofL [])), (.slice none 0 0), (.slice none 0 0)] [(0, 5, t80)] w442 k443) fun t81 w444 =>
               GeW (isB t71 false) w444 (fun k445 => callV Tryz.prog t73 [(.string (ofL [117, 112, 112, 101, 114])), t81] w444 k445) fun t82 w446 =>
               GeW (isB t71 false) w446 (fun k447 => callV Tryz.prog t84 [(.string (ofL [117, 112, 112, 101, 114])), t86] w446 k447) fun t87 w448 =>
               GeW (isB t71 false) w448 (fun k449 => bslW 28 1 [(.int .i64 0), (.bool false), (.string (ofL [])), (.slice none 0 0), (.slice none 0 0)] [(0, 5, t87)] w448 k449) fun t88 w450 =>
               GeW (isB t71 false) w450 (fun k451 => callV Tryz.prog t83 [(.string (ofL [117, 112, 112, 101, 114])), t88] w450 k451) fun t89 w452 =>
               GeW (isB t71 false) w452 (fun k453 => callF Tryz.prog 13 [t82, t89] w452 k453) fun t90 w454 =>
               GqW (isB t71 false) (fun k455 => unW .not t90 k455) fun t91 =>
               pickW t71 (.bool true) t91 fun t92 =>
        J82 [t92] w454)) ∧
             (
              GeW (isB t71 false) w391 (fun k456 => bslW 28 1 [(.int .i64 0), (.bool false), (.string (ofL [])), (.slice none 0 0), (.slice none 0 0)] [(0, 5, t85)] w391 k456) fun t86 w457 =>
              GeW (isB t71 false) w457 (fun k458 => bslW 28 1 [(.int .i64 0), (.bool false), (.string (ofL [])), (.slice none 0 0), (.slice none 0 0)] [(0, 5, t78)] w457 k458) fun t79 w459 =>
              GeW (isB t71 false) w459 (fun k460 => callV Tryz.prog t74 [(.string (ofL [117, 112, 112, 101, 114])), t79] w459 k460) fun t80 w461 =>
              GeW (isB t71 false) w461 (fun k462 => bslW 28 1 [(.int .i64 0), (.bool false), (.string (ofL [])), (.slice none 0 0), (.slice none 0 0)] [(0, 5, t80)] w461 k462) fun t81 w463 =>
              GeW (isB t71 false) w463 (fun k464 => callV Tryz.prog t73 [(.string (ofL [117, 112, 112, 101, 114])), t81] w463 k464) fun t82 w465 =>
              GeW (isB t71 false) w465 (fun k466 => callV Tryz.prog t84 [(.string (ofL [117, 112, 112, 101, 114])), t86] w465 k466) fun t87 w467 =>
              GeW (isB t71 false) w467 (fun k468 => bslW 28 1 [(.int .i64 0), (.bool false), (.string (ofL [])), (.slice none 0 0), (.slice none 0 0)] [(0, 5, t87)] w467 k468) fun t88 w469 =>
              GeW (isB t71 false) w469 (fun k470 => callV Tryz.prog t83 [(.string (ofL [117, 112, 112, 101, 114])), t88] w469 k470) fun t89 w471 =>
              GeW (isB t71 false) w471 (fun k472 => callF Tryz.prog 13 [t82, t89] w471 k472) fun t90 w473 =>
              GqW (isB t71 false) (fun k474 => unW .not t90 k474) fun t91 =>
              pickW t71 (.bool true) t91 fun t92 =>
        J82 [t92] w473)) ∧
            (
             GeW (isB t71 false) w389 (fun k475 => bslW 28 1 [(.int .i64 0), (.bool false), (.string (ofL [])), (.slice none 0 0), (.slice none 0 0)] [(0, 5, t85)] w389 k475) fun t86 w476 =>
             GeW (isB t71 false) w476 (fun k477 => callV Tryz.prog t75 [(.string (ofL [108, 111, 119, 101, 114])), t77] w476 k477) fun t78 w478 =>
             GeW (isB t71 false) w478 (fun k479 => bslW 28 1 [(.int .i64 0), (.bool false), (.string (ofL [])), (.slice none 0 0), (.slice none 0 0)] [(0, 5, t78)] w478 k479) fun t79 w480 =>
             GeW (isB t71 false) w480 (fun k481 => callV Tryz.prog t74 [(.string (ofL [117, 112, 112, 101, 114])), t79] w480 k481) fun t80 w482 =>
             GeW (isB t71 false) w482 (fun k483 => bslW 28 1 [(.int .i64 0), (.bool false), (.string (ofL [])), (.slice none 0 0), (.slice none 0 0)] [(0, 5, t80)] w482 k483) fun t81 w484 =>
             GeW (isB t71 false) w484 (fun k485 => callV Tryz.prog t73 [(.string (ofL [117, 112, 112, 101, 114])), t81] w484 k485) fun t82 w486 =>
             GeW (isB t71 false) w486 (fun k487 => callV Tryz.prog t84 [(.string (ofL [117, 112, 112, 101, 114])), t86] w486 k487) fun t87 w488 =>
             GeW (isB t71 false) w488 (fun k489 => bslW 28 1 [(.int .i64 0), (.bool false), (.string (ofL [])), (.slice none 0 0), (.slice none 0 0)] [(0, 5, t87)] w488 k489) fun t88 w490 =>
             GeW (isB t71 false) w490 (fun k491 => callV Tryz.prog t83 [(.string (ofL [117, 112, 112, 101, 114])), t88] w490 k491) fun t89 w492 =>
             GeW (isB t71 false) w492 (fun k493 => callF Tryz.prog 13 [t82, t89] w492 k493) fun t90 w494 =>
             GqW (isB t71 false) (fun k495 => unW .not t90 k495) fun t91 =>
             pickW t71 (.bool true) t91 fun t92 =>
        J82 [t92] w494)) ∧
           (
            GeW (isB t71 false) w380 (fun k496 => bslW 28 1 [(.int .i64 0), (.bool false), (.string (ofL [])), (.slice none 0 0), (.slice none 0 0)] [(0, 5, t85)] w380 k496) fun t86 w497 =>
            ((isB t71 false) = true → ldW true 5 t7 w497 fun x => x = t76) ∧
            GeW (isB t71 false) w497 (fun k498 => bslW 28 1 [(.int .i64 0), (.bool false), (.string (ofL [])), (.slice none 0 0), (.slice none 0 0)] [(0, 5, t76)] w497 k498) fun t77 w499 =>
            GeW (isB t71 false) w499 (fun k500 => callV Tryz.prog t75 [(.string (ofL [108, 111, 119, 101, 114])), t77] w499 k500) fun t78 w501 =>
            GeW (isB t71 false) w501 (fun k502 => bslW 28 1 [(.int .i64 0), (.bool false), (.string (ofL [])), (.slice none 0 0), (.slice none 0 0)] [(0, 5, t78)] w501 k502) fun t79 w503 =>
            GeW (isB t71 false) w503 (fun k504 => callV Tryz.prog t74 [(.string (ofL [117, 112, 112, 101, 114])), t79] w503 k504) fun t80 w505 =>
            GeW (isB t71 false) w505 (fun k506 => bslW 28 1 [(.int .i64 0), (.bool false), (.string (ofL [])), (.slice none 0 0), (.slice none 0 0)] [(0, 5, t80)] w505 k506) fun t81 w507 =>
            GeW (isB t71 false) w507 (fun k508 => callV Tryz.prog t73 [(.string (ofL [117, 112, 112, 101, 114])), t81] w507 k508) fun t82 w509 =>
            GeW (isB t71 false) w509 (fun k510 => callV Tryz.prog t84 [(.string (ofL [117, 112, 112, 101, 114])), t86] w509 k510) fun t87 w511 =>
            GeW (isB t71 false) w511 (fun k512 => bslW 28 1 [(.int .i64 0), (.bool false), (.string (ofL [])), (.slice none 0 0), (.slice none 0 0)] [(0, 5, t87)] w511 k512) fun t88 w513 =>
            GeW (isB t71 false) w513 (fun k514 => callV Tryz.prog t83 [(.string (ofL [117, 112, 112, 101, 114])), t88] w513 k514) fun t89 w515 =>
            GeW (isB t71 false) w515 (fun k516 => callF Tryz.prog 13 [t82, t89] w515 k516) fun t90 w517 =>
            GqW (isB t71 false) (fun k518 => unW .not t90 k518) fun t91 =>
            pickW t71 (.bool true) t91 fun t92 =>
        J82 [t92] w517))) ∧
         (
          bslW 28 1 [(.int .i64 0), (.bool false), (.string (ofL [])), (.slice none 0 0), (.slice none 0 0)] [(0, 5, t65)] w83 fun t66 w519 =>
          callV Tryz.prog (.func (.func 16) #[] #[]) [(.string (ofL [117, 112, 112, 101, 114])), t59] w519 fun t60 w520 =>
          bslW 28 1 [(.int .i64 0), (.bool false), (.string (ofL [])), (.slice none 0 0), (.slice none 0 0)] [(0, 5, t60)] w520 fun t61 w521 =>
          callV Tryz.prog (.func (.func 16) #[] #[]) [(.string (ofL [108, 101, 110, 103, 116, 104])), t61] w521 fun t62 w522 =>
          callV Tryz.prog (.func (.func 16) #[] #[]) [(.string (ofL [108, 111, 119, 101, 114])), t66] w522 fun t67 w523 =>
          bslW 28 1 [(.int .i64 0), (.bool false), (.string (ofL [])), (.slice none 0 0), (.slice none 0 0)] [(0, 5, t67)] w523 fun t68 w524 =>
          callV Tryz.prog (.func (.func 16) #[] #[]) [(.string (ofL [108, 101, 110, 103, 116, 104])), t68] w524 fun t69 w525 =>
          callF Tryz.prog 13 [t62, t69] w525 fun t70 w526 =>
          unW .not t70 fun t71 =>
          GqW (isB t71 false) (fun k527 => k527 (.func (.func 16) #[] #[])) fun t73 =>
          GqW (isB t71 false) (fun k528 => k528 (.func (.func 16) #[] #[])) fun t74 =>
          GqW (isB t71 false) (fun k529 => k529 (.func (.func 16) #[] #[])) fun t75 =>
          GqW (isB t71 false) (fun k530 => ldW true 5 t7 w526 k530) fun t76 =>
          GqW (isB t71 false) (fun k531 => k531 (.func (.func 16) #[] #[])) fun t83 =>
          GqW (isB t71 false) (fun k532 => k532 (.func (.func 16) #[] #[])) fun t84 =>
          GqW (isB t71 false) (fun k533 => ldW true 5 t7 w526 k533) fun t85 =>
          (
           GeW (isB t71 false) w526 (fun k534 => bslW 28 1 [(.int .i64 0), (.bool false), (.string (ofL [])), (.slice none 0 0), (.slice none 0 0)] [(0, 5, t76)] w526 k534) fun t77 w535 =>
           ((isB t71 false) = true → ldW true 5 t7 w535 fun x => x = t85) ∧
           (
            GeW (isB t71 false) w535 (fun k536 => callV Tryz.prog t75 [(.string (ofL [108, 111, 119, 101, 114])), t77] w535 k536) fun t78 w537 =>
            ((isB t71 false) = true → ldW true 5 t7 w537 fun x => x = t85) ∧
            (
             GeW (isB t71 false) w537 (fun k538 => bslW 28 1 [(.int .i64 0), (.bool false), (.string (ofL [])), (.slice none 0 0), (.slice none 0 0)] [(0, 5, t78)] w537 k538) fun t79 w539 =>
             ((isB t71 false) = true → ldW true 5 t7 w539 fun x => x = t85) ∧
             (
              GeW (isB t71 false) w539 (fun k540 => callV Tryz.prog t74 [(.string (ofL [117, 112, 112, 101, 114])), t79] w539 k540) fun t80 w541 =>
              ((isB t71 false) = true → ldW true 5 t7 w541 fun x => x = t85) ∧
              (
               GeW (isB t71 false) w541 (fun k542 => bslW 28 1 [(.int .i64 0), (.bool false), (.string (ofL [])), (.slice none 0 0), (.slice none 0 0)] [(0, 5, t80)] w541 k542) fun t81 w543 =>
               ((isB t71 false) = true → ldW true 5 t7 w543 fun x => x = t85) ∧
               (
                GeW (isB t71 false) w543 (fun k544 => callV Tryz.prog t73 [(.string (ofL [117, 112, 112, 101, 114])), t81] w543 k544) fun t82 w545 =>
                ((isB t71 false) = true → ldW true 5 t7 w545 fun x => x = t85) ∧
                GeW (isB t71 false) w545 (fun k546 => bslW 28 1 [(.int .i64 0), (.bool false), (.string (ofL [])), (.slice none 0 0), (.slice none 0 0)] [(0, 5, t85)] w545 k546) fun t86 w547 =>
                GeW (isB t71 false) w547 (fun k548 => callV Tryz.prog t84 [(.string (ofL [117, 112, 112, 101, 114])), t86] w547 k548) fun t87 w549 =>
                GeW (isB t71 false) w549 (fun k550 => bslW 28 1 [(.int .i64 0), (.bool false), (.string (ofL [])), (.slice none 0 0), (.slice none 0 0)] [(0, 5, t87)] w549 k550) fun t88 w551 =>
                GeW (isB t71 false) w551 (fun k552 => callV Tryz.prog t83 [(.string (ofL [117, 112, 112, 101, 114])), t88] w551 k552) fun t89 w553 =>
                GeW (isB t71 false) w553 (fun k554 => callF Tryz.prog 13 [t82, t89] w553 k554) fun t90 w555 =>
                GqW (isB t71 false) (fun k556 => unW .not t90 k556) fun t91 =>
                pickW t71 (.bool true) t91 fun t92 =>
        J82 [t92] w555) ∧
               (
                GeW (isB t71 false) w543 (fun k557 => bslW 28 1 [(.int .i64 0), (.bool false), (.string (ofL [])), (.slice none 0 0), (.slice none 0 0)] [(0, 5, t85)] w543 k557) fun t86 w558 =>
                GeW (isB t71 false) w558 (fun k559 => callV Tryz.prog t73 [(.string (ofL [117, 112, 112, 101, 114])), t81] w558 k559) fun t82 w560 =>
                GeW (isB t71 false) w560 (fun k561 => callV Tryz.prog t84 [(.string (ofL [117, 112, 112, 101, 114])), t86] w560 k561) fun t87 w562 =>
                GeW (isB t71 false) w562 (fun k563 => bslW 28 1 [(.int .i64 0), (.bool false), (.string (ofL [])), (.slice none 0 0), (.slice none 0 0)] [(0, 5, t87)] w562 k563) fun t88 w564 =>
                GeW (isB t71 false) w564 (fun k565 => callV Tryz.prog t83 [(.string (ofL [117, 112, 112, 101, 114])), t88] w564 k565) fun t89 w566 =>
                GeW (isB t71 false) w566 (fun k567 => callF Tryz.prog 13 [t82, t89] w566 k567) fun t90 w568 =>
                GqW (isB t71 false) (fun k569 => unW .not t90 k569) fun t91 =>
                pickW t71 (.bool true) t91 fun t92 =>
        J82 [t92] w568)) ∧
              (
               GeW (isB t71 false) w541 (fun k570 => bslW 28 1 [(.int .i64 0), (.bool false), (.string (ofL [])), (.slice none 0 0), (.slice none 0 0)] [(0, 5, t85)] w541 k570) fun t86 w571 =>
               GeW (isB t71 false) w571 (fun k572 => bslW 28 1 [(.int .i64 0), (.bool false), (.string (ofL [])), (.slice none 0 0), (.slice none 0 0)] [(0, 5, t80)] w571 k572) fun t81 w573 =>
               GeW (isB t71 false) w573 (fun k574 => callV Tryz.prog t73 [(.string (ofL [117, 112, 112, 101, 114])), t81] w573 k574) fun t82 w575 =>
               GeW (isB t71 false) w575 (fun k576 => callV Tryz.prog t84 [(.string (ofL [117, 112, 112, 101, 114])), t86] w575 k576) fun t87 w577 =>
               GeW (isB t71 false) w577 (fun k578 => bslW 28 1 [(.int .i64 0), (.bool false), (.string (ofL [])), (.slice none 0 0), (.slice none 0 0)] [(0, 5, t87)] w577 k578) fun t88 w579 =>
               GeW (isB t71 false) w579 (fun k580 => callV Tryz.prog t83 [(.string (ofL [117, 112, 112, 101, 114])), t88] w579 k580) fun t89 w581 =>
               GeW (isB t71 false) w581 (fun k582 => callF Tryz.prog 13 [t82, t89] w581 k582) fun t90 w583 =>
               GqW (isB t71 false) (fun k584 => unW .not t90 k584) fun t91 =>
               pickW t71 (.bool true) t91 fun t92 =>
        J82 [t92] w583)) ∧
             (
              GeW (isB t71 false) w539 (fun k585 => bslW 28 1 [(.int .i64 0), (.bool false), (.string (ofL [])), (.slice none 0 0), (.slice none 0 0)] [(0, 5, t85)] w539 k585) fun t86 w586 =>
              GeW (isB t71 false) w586 (fun k587 => callV Tryz.prog t74 [(.string (ofL [117, 112, 112, 101, 114])), t79] w586 k587) fun t80 w588 =>
              GeW (isB t71 false) w588 (fun k589 => bslW 28 1 [(.int .i64 0), (.bool false), (.string (ofL [])), (.slice none 0 0), (.slice none 0 0)] [(0, 5, t80)] w588 k589) fun t81 w590 =>
              GeW (isB t71 false) w590 (fun k591 => callV Tryz.prog t73 [(.string (ofL [117, 112, 112, 101, 114])), t81] w590 k591) fun t82 w592 =>
              GeW (isB t71 false) w592 (fun k593 => callV Tryz.prog t84 [(.string (ofL [117, 112, 112, 101, 114])), t86] w592 k593) fun t87 w594 =>
              GeW (isB t71 false) w594 (fun k595 => bslW 28 1 [(.int .i64 0), (.bool false), (.string (ofL [])), (.slice none 0 0), (.slice none 0 0)] [(0, 5, t87)] w594 k595) fun t88 w596 =>
              GeW (isB t71 false) w596 (fun k597 => callV Tryz.prog t83 [(.string (ofL [117, 112, 112, 101, 114])), t88] w596 k597) fun t89 w598 =>
              GeW (isB t71 false) w598 (fun k599 => callF Tryz.prog 13 [t82, t89] w598 k599) fun t90 w600 =>
              GqW (isB t71 false) (fun k601 => unW .not t90 k601) fun t91 =>
              pickW t71 (.bool true) t91 fun t92 =>
        J82 [t92] w600)) ∧
            (
             GeW (isB t71 false) w537 (fun k602 => bslW 28 1 [(.int .i64 0), (.bool false), (.string (ofL [])), (.slice none 0 0), (.slice none 0 0)] [(0, 5, t85)] w537 k602) fun t86 w603 =>
             GeW (isB t71 false) w603 (fun k604 => bslW 28 1 [(.int .i64 0), (.bool false), (.string (ofL [])), (.slice none 0 0), (.slice none 0 0)] [(0, 5, t78)] w603 k604) fun t79 w605 =>
             GeW (isB t71 false) w605 (fun k606 => callV Tryz.prog t74 [(.string (ofL [117, 112, 112, 101, 114])), t79] w605 k606) fun t80 w607 =>
             GeW (isB t71 false) w607 (fun k608 => bslW 28 1 [(.int .i64 0), (.bool false), (.string (ofL [])), (.slice none 0 0), (.slice none 0 0)] [(0, 5, t80)] w607 k608) fun t81 w609 =>
             GeW (isB t71 false) w609 (fun k610 => callV Tryz.prog t73 [(.string (ofL [117, 112, 112, 101, 114])), t81] w609 k610) fun t82 w611 =>
             GeW (isB t71 false) w611 (fun k612 => callV Tryz.prog t84 [(.string (ofL [117, 112, 112, 101, 114])), t86] w611 k612) fun t87 w613 =>
             GeW (isB t71 false) w613 (fun k614 => bslW 28 1 [(.int .i64 0), (.bool false), (.string (ofL [])), (.slice none 0 0), (.slice none 0 0)] [(0, 5, t87)] w613 k614) fun t88 w615 =>
             GeW (isB t71 false) w615 (fun k616 => callV Tryz.prog t83 [(.string (ofL [117, 112, 112, 101, 114])), t88] w615 k616) fun t89 w617 =>
             GeW (isB t71 false) w617 (fun k618 => callF Tryz.prog 13 [t82, t89] w617 k618) fun t90 w619 =>
             GqW (isB t71 false) (fun k620 => unW .not t90 k620) fun t91 =>
             pickW t71 (.bool true) t91 fun t92 =>
        J82 [t92] w619)) ∧
           (
            GeW (isB t71 false) w535 (fun k621 => bslW 28 1 [(.int .i64 0), (.bool false), (.string (ofL [])), (.slice none 0 0), (.slice none 0 0)] [(0, 5, t85)] w535 k621) fun t86 w622 =>
            GeW (isB t71 false) w622 (fun k623 => callV Tryz.prog t75 [(.string (ofL [108, 111, 119, 101, 114])), t77] w622 k623) fun t78 w624 =>
            GeW (isB t71 false) w624 (fun k625 => bslW 28 1 [(.int .i64 0), (.bool false), (.string (ofL [])), (.slice none 0 0), (.slice none 0 0)] [(0, 5, t78)] w624 k625) fun t79 w626 =>
            GeW (isB t71 false) w626 (fun k627 => callV Tryz.prog t74 [(.string (ofL [117, 112, 112, 101, 114])), t79] w626 k627) fun t80 w628 =>
            GeW (isB t71 false) w628 (fun k629 => bslW 28 1 [(.int .i64 0), (.bool false), (.string (ofL [])), (.slice none 0 0), (.slice none 0 0)] [(0, 5, t80)] w628 k629) fun t81 w630 =>
            GeW (isB t71 false) w630 (fun k631 => callV Tryz.prog t73 [(.string (ofL [117, 112, 112, 101, 114])), t81] w630 k631) fun t82 w632 =>
            GeW (isB t71 false) w632 (fun k633 => callV Tryz.prog t84 [(.string (ofL [117, 112, 112, 101, 114])), t86] w632 k633) fun t87 w634 =>
            GeW (isB t71 false) w634 (fun k635 => bslW 28 1 [(.int .i64 0), (.bool false), (.string (ofL [])), (.slice none 0 0), (.slice none 0 0)] [(0, 5, t87)] w634 k635) fun t88 w636 =>
            GeW (isB t71 false) w636 (fun k637 => callV Tryz.prog t83 [(.string (ofL [117, 112, 112, 101, 114])), t88] w636 k637) fun t89 w638 =>
            GeW (isB t71 false) w638 (fun k639 => callF Tryz.prog 13 [t82, t89] w638 k639) fun t90 w640 =>
            GqW (isB t71 false) (fun k641 => unW .not t90 k641) fun t91 =>
            pickW t71 (.bool true) t91 fun t92 =>
        J82 [t92] w640)) ∧
          (
           GeW (isB t71 false) w526 (fun k642 => bslW 28 1 [(.int .i64 0), (.bool false), (.string (ofL [])), (.slice none 0 0), (.slice none 0 0)] [(0, 5, t85)] w526 k642) fun t86 w643 =>
           ((isB t71 false) = true → ldW true 5 t7 w643 fun x => x = t76) ∧
           GeW (isB t71 false) w643 (fun k644 => bslW 28 1 [(.int .i64 0), (.bool false), (.string (ofL [])), (.slice none 0 0), (.slice none 0 0)] [(0, 5, t76)] w643 k644) fun t77 w645 =>
           GeW (isB t71 false) w645 (fun k646 => callV Tryz.prog t75 [(.string (ofL [108, 111, 119, 101, 114])), t77] w645 k646) fun t78 w647 =>
           GeW (isB t71 false) w647 (fun k648 => bslW 28 1 [(.int .i64 0), (.bool false), (.string (ofL [])), (.slice none 0 0), (.slice none 0 0)] [(0, 5, t78)] w647 k648) fun t79 w649 =>
           GeW (isB t71 false) w649 (fun k650 => callV Tryz.prog t74 [(.string (ofL [117, 112, 112, 101, 114])), t79] w649 k650) fun t80 w651 =>
           GeW (isB t71 false) w651 (fun k652 => bslW 28 1 [(.int .i64 0), (.bool false), (.string (ofL [])), (.slice none 0 0), (.slice none 0 0)] [(0, 5, t80)] w651 k652) fun t81 w653 =>
           GeW (isB t71 false) w653 (fun k654 => callV Tryz.prog t73 [(.string (ofL [117, 112, 112, 101, 114])), t81] w653 k654) fun t82 w655 =>
           GeW (isB t71 false) w655 (fun k656 => callV Tryz.prog t84 [(.string (ofL [117, 112, 112, 101, 114])), t86] w655 k656) fun t87 w657 =>
           GeW (isB t71 false) w657 (fun k658 => bslW 28 1 [(.int .i64 0), (.bool false), (.string (ofL [])), (.slice none 0 0), (.slice none 0 0)] [(0, 5, t87)] w657 k658) fun t88 w659 =>
           GeW (isB t71 false) w659 (fun k660 => callV Tryz.prog t83 [(.string (ofL [117, 112, 112, 101, 114])), t88] w659 k660) fun t89 w661 =>
           GeW (isB t71 false) w661 (fun k662 => callF Tryz.prog 13 [t82, t89] w661 k662) fun t90 w663 =>
           GqW (isB t71 false) (fun k664 => unW .not t90 k664) fun t91 =>
           pickW t71 (.bool true) t91 fun t92 =>
        J82 [t92] w663))) ∧
        (
         bslW 28 1 [(.int .i64 0), (.bool false), (.string (ofL [])), (.slice none 0 0), (.slice none 0 0)] [(0, 5, t65)] w81.drew fun t66 w665 =>
         (ldW true 5 t7 w665 fun x => x = t58) ∧
         bslW 28 1 [(.int .i64 0), (.bool false), (.string (ofL [])), (.slice none 0 0), (.slice none 0 0)] [(0, 5, t58)] w665 fun t59 w666 =>
         callV Tryz.prog (.func (.func 16) #[] #[]) [(.string (ofL [117, 112, 112, 101, 114])), t59] w666 fun t60 w667 =>
         bslW 28 1 [(.int .i64 0), (.bool false), (.string (ofL [])), (.slice none 0 0), (.slice none 0 0)] [(0, 5, t60)] w667 fun t61 w668 =>
         callV Tryz.prog (.func (.func 16) #[] #[]) [(.string (ofL [108, 101, 110, 103, 116, 104])), t61] w668 fun t62 w669 =>
         callV Tryz.prog (.func (.func 16) #[] #[]) [(.string (ofL [108, 111, 119, 101, 114])), t66] w669 fun t67 w670 =>
         bslW 28 1 [(.int .i64 0), (.bool false), (.string (ofL [])), (.slice none 0 0), (.slice none 0 0)] [(0, 5, t67)] w670 fun t68 w671 =>
         callV Tryz.prog (.func (.func 16) #[] #[]) [(.string (ofL [108, 101, 110, 103, 116, 104])), t68] w671 fun t69 w672 =>
         callF Tryz.prog 13 [t62, t69] w672 fun t70 w673 =>
         unW .not t70 fun t71 =>
         GqW (isB t71 false) (fun k674 => k674 (.func (.func 16) #[] #[])) fun t73 =>
         GqW (isB t71 false) (fun k675 => k675 (.func (.func 16) #[] #[])) fun t74 =>
         GqW (isB t71 false) (fun k676 => k676 (.func (.func 16) #[] #[])) fun t75 =>
         GqW (isB t71 false) (fun k677 => ldW true 5 t7 w673 k677) fun t76 =>
         GqW (isB t71 false) (fun k678 => k678 (.func (.func 16) #[] #[])) fun t83 =>
         GqW (isB t71 false) (fun k679 => k679 (.func (.func 16) #[] #[])) fun t84 =>
         GqW (isB t71 false) (fun k680 => ldW true 5 t7 w673 k680) fun t85 =>
         (
          GeW (isB t71 false) w673 (fun k681 => bslW 28 1 [(.int .i64 0), (.bool false), (.string (ofL [])), (.slice none 0 0), (.slice none 0 0)] [(0, 5, t76)] w673 k681) fun t77 w682 =>
          ((isB t71 false) = true → ldW true 5 t7 w682 fun x => x = t85) ∧
          (
           GeW (isB t71 false) w682 (fun k683 => callV Tryz.prog t75 [(.string (ofL [108, 111, 119, 101, 114])), t77] w682 k683) fun t78 w684 =>
           ((isB t71 false) = true → ldW true 5 t7 w684 fun x => x = t85) ∧
           (
            GeW (isB t71 false) w684 (fun k685 => bslW 28 1 [(.int .i64 0), (.bool false), (.string (ofL [])), (.slice none 0 0), (.slice none 0 0)] [(0, 5, t78)] w684 k685) fun t79 w686 =>
            ((isB t71 false) = true → ldW true 5 t7 w686 fun x => x = t85) ∧
            (
             GeW (isB t71 false) w686 (fun k687 => callV Tryz.prog t74 [(.string (ofL [117, 112, 112, 101, 114])), t79] w686 k687) fun t80 w688 =>
             ((isB t71 false) = true → ldW true 5 t7 w688 fun x => x = t85) ∧
             (
              GeW (isB t71 false) w688 (fun k689 => bslW 28 1 [(.int .i64 0), (.bool false), (.string (ofL [])), (.slice none 0 0), (.slice none 0 0)] [(0, 5, t80)] w688 k689) fun t81 w690 =>
              ((isB t71 false) = true → ldW true 5 t7 w690 fun x => x = t85) ∧
              (
               GeW (isB t71 false) w690 (fun k691 => callV Tryz.prog t73 [(.string (ofL [117, 112, 112, 101, 114])), t81] w690 k691) fun t82 w692 =>
               ((isB t71 false) = true → ldW true 5 t7 w692 fun x => x = t85) ∧
               GeW (isB t71 false) w692 (fun k693 => bslW 28 1 [(.int .i64 0), (.bool false), (.string (ofL [])), (.slice none 0 0), (.slice none 0 0)] [(0, 5, t85)] w692 k693) fun t86 w694 =>
               GeW (isB t71 false) w694 (fun k695 => callV Tryz.prog t84 [(.string (ofL [117, 112, 112, 101, 114])), t86] w694 k695) fun t87 w696 =>
               GeW (isB t71 false) w696 (fun k697 => bslW 28 1 [(.int .i64 0), (.bool false), (.string (ofL [])), (.slice none 0 0), (.slice none 0 0)] [(0, 5, t87)] w696 k697) fun t88 w698 =>
               GeW (isB t71 false) w698 (fun k699 => callV Tryz.prog t83 [(.string (ofL [117, 112, 112, 101, 114])), t88] w698 k699) fun t89 w700 =>
               GeW (isB t71 false) w700 (fun k701 => callF Tryz.prog 13 [t82, t89] w700 k701) fun t90 w702 =>
               GqW (isB t71 false) (fun k703 => unW .not t90 k703) fun t91 =>
               pickW t71 (.bool true) t91 fun t92 =>
        J82 [t92] w702) ∧
              (
               GeW (isB t71 false) w690 (fun k704 => bslW 28 1 [(.int .i64 0), (.bool false), (.string (ofL [])), (.slice none 0 0), (.slice none 0 0)] [(0, 5, t85)] w690 k704) fun t86 w705 =>
               GeW (isB t71 false) w705 (fun k706 => callV Tryz.prog t73 [(.string (ofL [117, 112, 112, 101, 114])), t81] w705 k706) fun t82 w707 =>
               GeW (isB t71 false) w707 (fun k708 => callV Tryz.prog t84 [(.string (ofL [117, 112, 112, 101, 114])), t86] w707 k708) fun t87 w709 =>
               GeW (isB t71 false) w709 (fun k710 => bslW 28 1 [(.int .i64 0), (.bool false), (.string (ofL [])), (.slice none 0 0), (.slice none 0 0)] [(0, 5, t87)] w709 k710) fun t88 w711 =>
               GeW (isB t71 false) w711 (fun k712 => callV Tryz.prog t83 [(.string (ofL [117, 112, 112, 101, 114])), t88] w711 k712) fun t89 w713 =>
               GeW (isB t71 false) w713 (fun k714 => callF Tryz.prog 13 [t82, t89] w713 k714) fun t90 w715 =>
               GqW (isB t71 false) (fun k716 => unW .not t90 k716) fun t91 =>
               pickW t71 (.bool true) t91 fun t92 =>
        J82 [t92] w715)) ∧
             (
              GeW (isB t71 false) w688 (fun k717 => bslW 28 1 [(.int .i64 0), (.bool false), (.string (ofL [])), (.slice none 0 0), (.slice none 0 0)] [(0, 5, t85)] w688 k717) fun t86 w718 =>
              GeW (isB t71 false) w718 (fun k719 => bslW 28 1 [(.int .i64 0), (.bool false), (.string (ofL [])), (.slice none 0 0), (.slice none 0 0)] [(0, 5, t80)] w718 k719) fun t81 w720 =>
              GeW (isB t71 false) w720 (fun k721 => callV Tryz.prog t73 [(.string (ofL [117, 112, 112, 101, 114])), t81] w720 k721) fun t82 w722 =>
              GeW (isB t71 false) w722 (fun k723 => callV Tryz.prog t84 [(.string (ofL [117, 112, 112, 101, 114])), t86] w722 k723) fun t87 w724 =>
              GeW (isB t71 false) w724 (fun k725 => bslW 28 1 [(.int .i64 0), (.bool false), (.string (ofL [])), (.slice none 0 0), (.slice none 0 0)] [(0, 5, t87)] w724 k725) fun t88 w726 =>
              GeW (isB t71 false) w726 (fun k727 => callV Tryz.prog t83 [(.string (ofL [117, 112, 112, 101, 114])), t88] w726 k727) fun t89 w728 =>
              GeW (isB t71 false) w728 (fun k729 => callF Tryz.prog 13 [t82, t89] w728 k729) fun t90 w730 =>
              GqW (isB t71 false) (fun k731 => unW .not t90 k731) fun t91 =>
              pickW t71 (.bool true) t91 fun t92 =>
        J82 [t92] w730)) ∧
            (
             GeW (isB t71 false) w686 (fun k732 => bslW 28 1 [(.int .i64 0), (.bool false), (.string (ofL [])), (.slice none 0 0), (.slice none 0 0)] [(0, 5, t85)] w686 k732) fun t86 w733 =>
             GeW (isB t71 false) w733 (fun k734 => callV Tryz.prog t74 [(.string (ofL [117, 112, 112, 101, 114])), t79] w733 k734) fun t80 w735 =>
             GeW (isB t71 false) w735 (fun k736 => bslW 28 1 [(.int .i64 0), (.bool false), (.string (ofL [])), (.slice none 0 0), (.slice none 0 0)] [(0, 5, t80)] w735 k736) fun t81 w737 =>
             GeW (isB t71 false) w737 (fun k738 => callV Tryz.prog t73 [(.string (ofL [117, 112, 112, 101, 114])), t81] w737 k738) fun t82 w739 =>
             GeW (isB t71 false) w739 (fun k740 => callV Tryz.prog t84 [(.string (ofL [117, 112, 112, 101, 114])), t86] w739 k740) fun t87 w741 =>
             GeW (isB t71 false) w741 (fun k742 => bslW 28 1 [(.int .i64 0), (.bool false), (.string (ofL [])), (.slice none 0 0), (.slice none 0 0)] [(0, 5, t87)] w741 k742) fun t88 w743 =>
             GeW (isB t71 false) w743 (fun k744 => callV Tryz.prog t83 [(.string (ofL [117, 112, 112, 101, 114])), t88] w743 k744) fun t89 w745 =>
             GeW (isB t71 false) w745 (fun k746 => callF Tryz.prog 13 [t82, t89] w745 k746) fun t90 w747 =>
             GqW (isB t71 false) (fun k748 => unW .not t90 k748) fun t91 =>
             pickW t71 (.bool true) t91 fun t92 =>
        J82 [t92] w747)) ∧
           (
            GeW (isB t71 false) w684 (fun k749 => bslW 28 1 [(.int .i64 0), (.bool false), (.string (ofL [])), (.slice none 0 0), (.slice none 0 0)] [(0, 5, t85)] w684 k749) fun t86 w750 =>
            GeW (isB t71 false) w750 (fun k751 => bslW 28 1 [(.int .i64 0), (.bool false), (.string (ofL [])), (.slice none 0 0), (.slice none 0 0)] [(0, 5, t78)] w750 k751) fun t79 w752 =>
            GeW (isB t71 false) w752 (fun k753 => callV Tryz.prog t74 [(.string (ofL [117, 112, 112, 101, 114])), t79] w752 k753) fun t80 w754 =>
            GeW (isB t71 false) w754 (fun k755 => bslW 28 1 [(.int .i64 0), (.bool false), (.string (ofL [])), (.slice none 0 0), (.slice none 0 0)] [(0, 5, t80)] w754 k755) fun t81 w756 =>
            GeW (isB t71 false) w756 (fun k757 => callV Tryz.prog t73 [(.string (ofL [117, 112, 112, 101, 114])), t81] w756 k757) fun t82 w758 =>
            GeW (isB t71 false) w758 (fun k759 => callV Tryz.prog t84 [(.string (ofL [117, 112, 112, 101, 114])), t86] w758 k759) fun t87 w760 =>
            GeW (isB t71 false) w760 (fun k761 => bslW 28 1 [(.int .i64 0), (.bool false), (.string (ofL [])), (.slice none 0 0), (.slice none 0 0)] [(0, 5, t87)] w760 k761) fun t88 w762 =>
            GeW (isB t71 false) w762 (fun k763 => callV Tryz.prog t83 [(.string (ofL [117, 112, 112, 101, 114])), t88] w762 k763) fun t89 w764 =>
            GeW (isB t71 false) w764 (fun k765 => callF Tryz.prog 13 [t82, t89] w764 k765) fun t90 w766 =>
            GqW (isB t71 false) (fun k767 => unW .not t90 k767) fun t91 =>
            pickW t71 (.bool true) t91 fun t92 =>
        J82 [t92] w766)) ∧
          (
           GeW (isB t71 false) w682 (fun k768 => bslW 28 1 [(.int .i64 0), (.bool false), (.string (ofL [])), (.slice none 0 0), (.slice none 0 0)] [(0, 5, t85)] w682 k768) fun t86 w769 =>
           GeW (isB t71 false) w769 (fun k770 => callV Tryz.prog t75 [(.string (ofL [108, 111, 119, 101, 114])), t77] w769 k770) fun t78 w771 =>
           GeW (isB t71 false) w771 (fun k772 => bslW 28 1 [(.int .i64 0), (.bool false), (.string (ofL [])), (.slice none 0 0), (.slice none 0 0)] [(0, 5, t78)] w771 k772) fun t79 w773 =>
           GeW (isB t71 false) w773 (fun k774 => callV Tryz.prog t74 [(.string (ofL [117, 112, 112, 101, 114])), t79] w773 k774) fun t80 w775 =>
           GeW (isB t71 false) w775 (fun k776 => bslW 28 1 [(.int .i64 0), (.bool false), (.string (ofL [])), (.slice none 0 0), (.slice none 0 0)] [(0, 5, t80)] w775 k776) fun t81 w777 =>
           GeW (isB t71 false) w777 (fun k778 => callV Tryz.prog t73 [(.string (ofL [117, 112, 112, 101, 114])), t81] w777 k778) fun t82 w779 =>
           GeW (isB t71 false) w779 (fun k780 => callV Tryz.prog t84 [(.string (ofL [117, 112, 112, 101, 114])), t86] w779 k780) fun t87 w781 =>
           GeW (isB t71 false) w781 (fun k782 => bslW 28 1 [(.int .i64 0), (.bool false), (.string (ofL [])), (.slice none 0 0), (.slice none 0 0)] [(0, 5, t87)] w781 k782) fun t88 w783 =>
           GeW (isB t71 false) w783 (fun k784 => callV Tryz.prog t83 [(.string (ofL [117, 112, 112, 101, 114])), t88] w783 k784) fun t89 w785 =>
           GeW (isB t71 false) w785 (fun k786 => callF Tryz.prog 13 [t82, t89] w785 k786) fun t90 w787 =>
           GqW (isB t71 false) (fun k788 => unW .not t90 k788) fun t91 =>
           pickW t71 (.bool true) t91 fun t92 =>
        J82 [t92] w787)) ∧
         (
          GeW (isB t71 false) w673 (fun k789 => bslW 28 1 [(.int .i64 0), (.bool false), (.string (ofL [])), (.slice none 0 0), (.slice none 0 0)] [(0, 5, t85)] w673 k789) fun t86 w790 =>
          ((isB t71 false) = true → ldW true 5 t7 w790 fun x => x = t76) ∧
          GeW (isB t71 false) w790 (fun k791 => bslW 28 1 [(.int .i64 0), (.bool false), (.string (ofL [])), (.slice none 0 0), (.slice none 0 0)] [(0, 5, t76)] w790 k791) fun t77 w792 =>
          GeW (isB t71 false) w792 (fun k793 => callV Tryz.prog t75 [(.string (ofL [108, 111, 119, 101, 114])), t77] w792 k793) fun t78 w794 =>
          GeW (isB t71 false) w794 (fun k795 => bslW 28 1 [(.int .i64 0), (.bool false), (.string (ofL [])), (.slice none 0 0), (.slice none 0 0)] [(0, 5, t78)] w794 k795) fun t79 w796 =>
          GeW (isB t71 false) w796 (fun k797 => callV Tryz.prog t74 [(.string (ofL [117, 112, 112, 101, 114])), t79] w796 k797) fun t80 w798 =>
          GeW (isB t71 false) w798 (fun k799 => bslW 28 1 [(.int .i64 0), (.bool false), (.string (ofL [])), (.slice none 0 0), (.slice none 0 0)] [(0, 5, t80)] w798 k799) fun t81 w800 =>
          GeW (isB t71 false) w800 (fun k801 => callV Tryz.prog t73 [(.string (ofL [117, 112, 112, 101, 114])), t81] w800 k801) fun t82 w802 =>
          GeW (isB t71 false) w802 (fun k803 => callV Tryz.prog t84 [(.string (ofL [117, 112, 112, 101, 114])), t86] w802 k803) fun t87 w804 =>
          GeW (isB t71 false) w804 (fun k805 => bslW 28 1 [(.int .i64 0), (.bool false), (.string (ofL [])), (.slice none 0 0), (.slice none 0 0)] [(0, 5, t87)] w804 k805) fun t88 w806 =>
          GeW (isB t71 false) w806 (fun k807 => callV Tryz.prog t83 [(.string (ofL [117, 112, 112, 101, 114])), t88] w806 k807) fun t89 w808 =>
          GeW (isB t71 false) w808 (fun k809 => callF Tryz.prog 13 [t82, t89] w808 k809) fun t90 w810 =>
          GqW (isB t71 false) (fun k811 => unW .not t90 k811) fun t91 =>
          pickW t71 (.bool true) t91 fun t92 =>
        J82 [t92] w810)))
      fun s82 _ w812 =>
      condW (s82.getD 0 undef) (
        K (.bool false) w812) (
        JoinW (fun J813 =>
          binW .neq (s2.getD 1 undef) (.string (ofL [])) fun t94 =>
          condW t94 (
            JoinW (fun J814 =>
              ldW true 5 t7 w812.drew fun t98 =>
              (
               callF Tryz.prog 15 [(s2.getD 1 undef)] w812.drew fun t97 w815 =>
               (ldW true 5 t7 w815 fun x => x = t98) ∧
               (
                bslW 28 2 [(.int .i64 0), (.bool false), (.string (ofL [])), (.slice none 0 0), (.slice none 0 0), (.int .i64 0), (.bool false), (.string (ofL [])), (.slice none 0 0), (.slice none 0 0)] [(0, 5, t97), (5, 5, t98)] w815 fun t99 w816 =>
                (
                 callV Tryz.prog (.func (.func 16) #[] #[]) [(.string (ofL [115, 112, 108, 105, 116])), t99] w816 fun t100 w817 =>
                 allocW 28 [(.int .i64 0), (.bool false), (.string (ofL [])), (.slice none 0 0), (.slice none 0 0)] w817 fun t10 w818 =>
                 stW 5 t10 t100 w818 fun w819 =>
              J814 [t10] w819) ∧
                (
                 allocW 28 [(.int .i64 0), (.bool false), (.string (ofL [])), (.slice none 0 0), (.slice none 0 0)] w816 fun t10 w820 =>
                 callV Tryz.prog (.func (.func 16) #[] #[]) [(.string (ofL [115, 112, 108, 105, 116])), t99] w820 fun t100 w821 =>
                 stW 5 t10 t100 w821 fun w822 =>
              J814 [t10] w822)) ∧
               (
                allocW 28 [(.int .i64 0), (.bool false), (.string (ofL [])), (.slice none 0 0), (.slice none 0 0)] w815 fun t10 w823 =>
                (ldW true 5 t7 w823 fun x => x = t98) ∧
                bslW 28 2 [(.int .i64 0), (.bool false), (.string (ofL [])), (.slice none 0 0), (.slice none 0 0), (.int .i64 0), (.bool false), (.string (ofL [])), (.slice none 0 0), (.slice none 0 0)] [(0, 5, t97), (5, 5, t98)] w823 fun t99 w824 =>
                callV Tryz.prog (.func (.func 16) #[] #[]) [(.string (ofL [115, 112, 108, 105, 116])), t99] w824 fun t100 w825 =>
                stW 5 t10 t100 w825 fun w826 =>
              J814 [t10] w826)) ∧
              (
               allocW 28 [(.int .i64 0), (.bool false), (.string (ofL [])), (.slice none 0 0), (.slice none 0 0)] w812.drew fun t10 w827 =>
               (ldW true 5 t7 w827 fun x => x = t98) ∧
               callF Tryz.prog 15 [(s2.getD 1 undef)] w827 fun t97 w828 =>
               (ldW true 5 t7 w828 fun x => x = t98) ∧
               bslW 28 2 [(.int .i64 0), (.bool false), (.string (ofL [])), (.slice none 0 0), (.slice none 0 0), (.int .i64 0), (.bool false), (.string (ofL [])), (.slice none 0 0), (.slice none 0 0)] [(0, 5, t97), (5, 5, t98)] w828 fun t99 w829 =>
               callV Tryz.prog (.func (.func 16) #[] #[]) [(.string (ofL [115, 112, 108, 105, 116])), t99] w829 fun t100 w830 =>
               stW 5 t10 t100 w830 fun w831 =>
              J814 [t10] w831))
            fun s814 _ w832 =>
            ldW true 5 (s814.getD 0 undef) w832.drew fun t104 =>
            ldW true 5 t7 w832.drew fun t107 =>
            callF Tryz.prog 15 [(s2.getD 1 undef)] w832.drew fun t103 w833 =>
            (ldW true 5 t7 w833 fun x => x = t107) ∧
            (ldW true 5 (s814.getD 0 undef) w833 fun x => x = t104) ∧
            bslW 28 2 [(.int .i64 0), (.bool false), (.string (ofL [])), (.slice none 0 0), (.slice none 0 0), (.int .i64 0), (.bool false), (.string (ofL [])), (.slice none 0 0), (.slice none 0 0)] [(0, 5, t103), (5, 5, t104)] w833 fun t105 w834 =>
            (ldW true 5 t7 w834 fun x => x = t107) ∧
            callV Tryz.prog (.func (.func 16) #[] #[]) [(.string (ofL [106, 111, 105, 110])), t105] w834 fun t106 w835 =>
            (ldW true 5 t7 w835 fun x => x = t107) ∧
            callF Tryz.prog 13 [t106, t107] w835 fun t108 w836 =>
            unW .not t108 fun t109 =>
            GqW (isB t109 false) (fun k837 => k837 (.func (.func 16) #[] #[])) fun t111 =>
            GqW (isB t109 false) (fun k838 => k838 (.func (.func 16) #[] #[])) fun t112 =>
            GqW (isB t109 false) (fun k839 => ldW true 5 (s814.getD 0 undef) w836 k839) fun t113 =>
            GqW (isB t109 false) (fun k840 => ldW true 5 (s814.getD 0 undef) w836 k840) fun t118 =>
            GeW (isB t109 false) w836 (fun k841 => bslW 28 1 [(.int .i64 0), (.bool false), (.string (ofL [])), (.slice none 0 0), (.slice none 0 0)] [(0, 5, t113)] w836 k841) fun t114 w842 =>
            ((isB t109 false) = true → ldW true 5 (s814.getD 0 undef) w842 fun x => x = t118) ∧
            GeW (isB t109 false) w842 (fun k843 => callV Tryz.prog t112 [(.string (ofL [114, 101, 118, 101, 114, 115, 101])), t114] w842 k843) fun t115 w844 =>
            ((isB t109 false) = true → ldW true 5 (s814.getD 0 undef) w844 fun x => x = t118) ∧
            GeW (isB t109 false) w844 (fun k845 => bslW 28 1 [(.int .i64 0), (.bool false), (.string (ofL [])), (.slice none 0 0), (.slice none 0 0)] [(0, 5, t115)] w844 k845) fun t116 w846 =>
            ((isB t109 false) = true → ldW true 5 (s814.getD 0 undef) w846 fun x => x = t118) ∧
            GeW (isB t109 false) w846 (fun k847 => callV Tryz.prog t111 [(.string (ofL [114, 101, 118, 101, 114, 115, 101])), t116] w846 k847) fun t117 w848 =>
            ((isB t109 false) = true → ldW true 5 (s814.getD 0 undef) w848 fun x => x = t118) ∧
            GeW (isB t109 false) w848 (fun k849 => callF Tryz.prog 13 [t117, t118] w848 k849) fun t119 w850 =>
            GqW (isB t109 false) (fun k851 => unW .not t119 k851) fun t120 =>
            pickW t109 (.bool true) t120 fun t121 =>
            condW t121 (
              K (.bool false) w850) (
              J813 [] w850)) (
            J813 [] w812))
        fun s813 _ w852 =>
        cvtW .u64 v2 fun t123 =>
        binW .rem t123 (.int .u64 400) fun t124 =>
        cvtW .i64 t124 fun t125 =>
        callF Tryz.prog 18 [t125] w852 fun t126 w853 =>
        allocW 28 [(.int .i64 0), (.bool false), (.string (ofL [])), (.slice none 0 0), (.slice none 0 0)] w853 fun t11 w854 =>
        stW 5 t11 t126 w854 fun w855 =>
        JoinW (fun J856 =>
          ldW true 5 t7 w855.drew fun t128 =>
          ldW true 5 t11 w855.drew fun t130 =>
          ldW true 5 t7 w855.drew fun t134 =>
          ldW true 5 t11 w855.drew fun t135 =>
          (
           callF Tryz.prog 18 [(.int .i64 0)] w855.drew fun t129 w857 =>
           (ldW true 5 t11 w857 fun x => x = t135) ∧
           (ldW true 5 t7 w857 fun x => x = t134) ∧
           (ldW true 5 t11 w857 fun x => x = t130) ∧
           (ldW true 5 t7 w857 fun x => x = t128) ∧
           (
            bslW 28 3 [(.int .i64 0), (.bool false), (.string (ofL [])), (.slice none 0 0), (.slice none 0 0), (.int .i64 0), (.bool false), (.string (ofL [])), (.slice none 0 0), (.slice none 0 0), (.int .i64 0), (.bool false), (.string (ofL [])), (.slice none 0 0), (.slice none 0 0)] [(0, 5, t128), (5, 5, t129), (10, 5, t130)] w857 fun t131 w858 =>
            (ldW true 5 t11 w858 fun x => x = t135) ∧
            (ldW true 5 t7 w858 fun x => x = t134) ∧
            (
             callV Tryz.prog (.func (.func 16) #[] #[]) [(.string (ofL [115, 117, 98, 115, 116, 114])), t131] w858 fun t132 w859 =>
             (ldW true 5 t11 w859 fun x => x = t135) ∧
             (ldW true 5 t7 w859 fun x => x = t134) ∧
             (
              callF Tryz.prog 18 [(.int .i64 400)] w859 fun t136 w860 =>
              (ldW true 5 t11 w860 fun x => x = t135) ∧
              (ldW true 5 t7 w860 fun x => x = t134) ∧
              (
               bslW 28 3 [(.int .i64 0), (.bool false), (.string (ofL [])), (.slice none 0 0), (.slice none 0 0), (.int .i64 0), (.bool false), (.string (ofL [])), (.slice none 0 0), (.slice none 0 0), (.int .i64 0), (.bool false), (.string (ofL [])), (.slice none 0 0), (.slice none 0 0)] [(0, 5, t134), (5, 5, t135), (10, 5, t136)] w860 fun t137 w861 =>
               (
                callV Tryz.prog (.func (.func 16) #[] #[]) [(.string (ofL [115, 117, 98, 115, 116, 114])), t137] w861 fun t138 w862 =>
                (
                 allocW 28 [(.int .i64 0), (.bool false), (.string (ofL [])), (.slice none 0 0), (.slice none 0 0)] w862 fun t12 w863 =>
                 allocW 28 [(.int .i64 0), (.bool false), (.string (ofL [])), (.slice none 0 0), (.slice none 0 0)] w863 fun t13 w864 =>
                 stW 5 t12 t132 w864 fun w865 =>
                 stW 5 t13 t138 w865 fun w866 =>
          J856 [t12, t13] w866) ∧
                (
                 allocW 28 [(.int .i64 0), (.bool false), (.string (ofL [])), (.slice none 0 0), (.slice none 0 0)] w862 fun t13 w867 =>
                 allocW 28 [(.int .i64 0), (.bool false), (.string (ofL [])), (.slice none 0 0), (.slice none 0 0)] w867 fun t12 w868 =>
                 stW 5 t12 t132 w868 fun w869 =>
                 stW 5 t13 t138 w869 fun w870 =>
          J856 [t12, t13] w870)) ∧
               (
                allocW 28 [(.int .i64 0), (.bool false), (.string (ofL [])), (.slice none 0 0), (.slice none 0 0)] w861 fun t12 w871 =>
                (
                 callV Tryz.prog (.func (.func 16) #[] #[]) [(.string (ofL [115, 117, 98, 115, 116, 114])), t137] w871 fun t138 w872 =>
                 allocW 28 [(.int .i64 0), (.bool false), (.string (ofL [])), (.slice none 0 0), (.slice none 0 0)] w872 fun t13 w873 =>
                 stW 5 t12 t132 w873 fun w874 =>
                 stW 5 t13 t138 w874 fun w875 =>
          J856 [t12, t13] w875) ∧
                (
                 allocW 28 [(.int .i64 0), (.bool false), (.string (ofL [])), (.slice none 0 0), (.slice none 0 0)] w871 fun t13 w876 =>
                 callV Tryz.prog (.func (.func 16) #[] #[]) [(.string (ofL [115, 117, 98, 115, 116, 114])), t137] w876 fun t138 w877 =>
                 stW 5 t12 t132 w877 fun w878 =>
                 stW 5 t13 t138 w878 fun w879 =>
          J856 [t12, t13] w879)) ∧
               (
                allocW 28 [(.int .i64 0), (.bool false), (.string (ofL [])), (.slice none 0 0), (.slice none 0 0)] w861 fun t13 w880 =>
                (
                 callV Tryz.prog (.func (.func 16) #[] #[]) [(.string (ofL [115, 117, 98, 115, 116, 114])), t137] w880 fun t138 w881 =>
                 allocW 28 [(.int .i64 0), (.bool false), (.string (ofL [])), (.slice none 0 0), (.slice none 0 0)] w881 fun t12 w882 =>
                 stW 5 t12 t132 w882 fun w883 =>
                 stW 5 t13 t138 w883 fun w884 =>
          J856 [t12, t13] w884) ∧
                (
                 allocW 28 [(.int .i64 0), (.bool false), (.string (ofL [])), (.slice none 0 0), (.slice none 0 0)] w880 fun t12 w885 =>
                 callV Tryz.prog (.func (.func 16) #[] #[]) [(.string (ofL [115, 117, 98, 115, 116, 114])), t137] w885 fun t138 w886 =>
                 stW 5 t12 t132 w886 fun w887 =>
                 stW 5 t13 t138 w887 fun w888 =>
          J856 [t12, t13] w888))) ∧
              (
               allocW 28 [(.int .i64 0), (.bool false), (.string (ofL [])), (.slice none 0 0), (.slice none 0 0)] w860 fun t12 w889 =>
               (ldW true 5 t11 w889 fun x => x = t135) ∧
               (ldW true 5 t7 w889 fun x => x = t134) ∧
               (
                bslW 28 3 [(.int .i64 0), (.bool false), (.string (ofL [])), (.slice none 0 0), (.slice none 0 0), (.int .i64 0), (.bool false), (.string (ofL [])), (.slice none 0 0), (.slice none 0 0), (.int .i64 0), (.bool false), (.string (ofL [])), (.slice none 0 0), (.slice none 0 0)] [(0, 5, t134), (5, 5, t135), (10, 5, t136)] w889 fun t137 w890 =>
                (
                 callV Tryz.prog (.func (.func 16) #[] #[]) [(.string (ofL [115, 117, 98, 115, 116, 114])), t137] w890 fun t138 w891 =>
                 allocW 28 [(.int .i64 0), (.bool false), (.string (ofL [])), (.slice none 0 0), (.slice none 0 0)] w891 fun t13 w892 =>
                 stW 5 t12 t132 w892 fun w893 =>
                 stW 5 t13 t138 w893 fun w894 =>
          J856 [t12, t13] w894) ∧
                (
                 allocW 28 [(.int .i64 0), (.bool false), (.string (ofL [])), (.slice none 0 0), (.slice none 0 0)] w890 fun t13 w895 =>
                 callV Tryz.prog (.func (.func 16) #[] #[]) [(.string (ofL [115, 117, 98, 115, 116, 114])), t137] w895 fun t138 w896 =>
                 stW 5 t12 t132 w896 fun w897 =>
                 stW 5 t13 t138 w897 fun w898 =>
          J856 [t12, t13] w898)) ∧
               (
                allocW 28 [(.int .i64 0), (.bool false), (.string (ofL [])), (.slice none 0 0), (.slice none 0 0)] w889 fun t13 w899 =>
                (ldW true 5 t11 w899 fun x => x = t135) ∧
                (ldW true 5 t7 w899 fun x => x = t134) ∧
                bslW 28 3 [(.int .i64 0), (.bool false), (.string (ofL [])), (.slice none 0 0), (.slice none 0 0), (.int .i64 0), (.bool false), (.string (ofL [])), (.slice none 0 0), (.slice none 0 0), (.int .i64 0), (.bool false), (.string (ofL [])), (.slice none 0 0), (.slice none 0 0)] [(0, 5, t134), (5, 5, t135), (10, 5, t136)] w899 fun t137 w900 =>
                callV Tryz.prog (.func (.func 16) #[] #[]) [(.string (ofL [115, 117, 98, 115, 116, 114])), t137] w900 fun t138 w901 =>
                stW 5 t12 t132 w901 fun w902 =>
                stW 5 t13 t138 w902 fun w903 =>
          J856 [t12, t13] w903)) ∧
              (
               allocW 28 [(.int .i64 0), (.bool false), (.string (ofL [])), (.slice none 0 0), (.slice none 0 0)] w860 fun t13 w904 =>
               (ldW true 5 t11 w904 fun x => x = t135) ∧
               (ldW true 5 t7 w904 fun x => x = t134) ∧
               (
                bslW 28 3 [(.int .i64 0), (.bool false), (.string (ofL [])), (.slice none 0 0), (.slice none 0 0), (.int .i64 0), (.bool false), (.string (ofL [])), (.slice none 0 0), (.slice none 0 0), (.int .i64 0), (.bool false), (.string (ofL [])), (.slice none 0 0), (.slice none 0 0)] [(0, 5, t134), (5, 5, t135), (10, 5, t136)] w904 fun t137 w905 =>
                (
                 callV Tryz.prog (.func (.func 16) #[] #[]) [(.string (ofL [115, 117, 98, 115, 116, 114])), t137] w905 fun t138 w906 =>
                 allocW 28 [(.int .i64 0), (.bool false), (.string (ofL [])), (.slice none 0 0), (.slice none 0 0)] w906 fun t12 w907 =>
                 stW 5 t12 t132 w907 fun w908 =>
                 stW 5 t13 t138 w908 fun w909 =>
          J856 [t12, t13] w909) ∧
                (
                 allocW 28 [(.int .i64 0), (.bool false), (.string (ofL [])), (.slice none 0 0), (.slice none 0 0)] w905 fun t12 w910 =>
                 callV Tryz.prog (.func (.func 16) #[] #[]) [(.string (ofL [115, 117, 98, 115, 116, 114])), t137] w910 fun t138 w911 =>
                 stW 5 t12 t132 w911 fun w912 =>
                 stW 5 t13 t138 w912 fun w913 =>
          J856 [t12, t13] w913)) ∧
               (
                allocW 28 [(.int .i64 0), (.bool false), (.string (ofL [])), (.slice none 0 0), (.slice none 0 0)] w904 fun t12 w914 =>
                (ldW true 5 t11 w914 fun x => x = t135) ∧
                (ldW true 5 t7 w914 fun x => x = t134) ∧
                bslW 28 3 [(.int .i64 0), (.bool false), (.string (ofL [])), (.slice none 0 0), (.slice none 0 0), (.int .i64 0), (.bool false), (.string (ofL [])), (.slice none 0 0), (.slice none 0 0), (.int .i64 0), (.bool false), (.string (ofL [])), (.slice none 0 0), (.slice none 0 0)] [(0, 5, t134), (5, 5, t135), (10, 5, t136)] w914 fun t137 w915 =>
                callV Tryz.prog (.func (.func 16) #[] #[]) [(.string (ofL [115, 117, 98, 115, 116, 114])), t137] w915 fun t138 w916 =>
                stW 5 t12 t132 w916 fun w917 =>
                stW 5 t13 t138 w917 fun w918 =>
          J856 [t12, t13] w918))) ∧
             (
              allocW 28 [(.int .i64 0), (.bool false), (.string (ofL [])), (.slice none 0 0), (.slice none 0 0)] w859 fun t12 w919 =>
              (ldW true 5 t11 w919 fun x => x = t135) ∧
              (ldW true 5 t7 w919 fun x => x = t134) ∧
              (
               callF Tryz.prog 18 [(.int .i64 400)] w919 fun t136 w920 =>
               (ldW true 5 t11 w920 fun x => x = t135) ∧
               (ldW true 5 t7 w920 fun x => x = t134) ∧
               (
                bslW 28 3 [(.int .i64 0), (.bool false), (.string (ofL [])), (.slice none 0 0), (.slice none 0 0), (.int .i64 0), (.bool false), (.string (ofL [])), (.slice none 0 0), (.slice none 0 0), (.int .i64 0), (.bool false), (.string (ofL [])), (.slice none 0 0), (.slice none 0 0)] [(0, 5, t134), (5, 5, t135), (10, 5, t136)] w920 fun t137 w921 =>
                (
                 callV Tryz.prog (.func (.func 16) #[] #[]) [(.string (ofL [115, 117, 98, 115, 116, 114])), t137] w921 fun t138 w922 =>
                 allocW 28 [(.int .i64 0), (.bool false), (.string (ofL [])), (.slice none 0 0), (.slice none 0 0)] w922 fun t13 w923 =>
                 stW 5 t12 t132 w923 fun w924 =>
                 stW 5 t13 t138 w924 fun w925 =>
          J856 [t12, t13] w925) ∧
                (
                 allocW 28 [(.int .i64 0), (.bool false), (.string (ofL [])), (.slice none 0 0), (.slice none 0 0)] w921 fun t13 w926 =>
                 callV Tryz.prog (.func (.func 16) #[] #[]) [(.string (ofL [115, 117, 98, 115, 116, 114])), t137] w926 fun t138 w927 =>
                 stW 5 t12 t132 w927 fun w928 =>
                 stW 5 t13 t138 w928 fun w929 =>
          J856 [t12, t13] w929)) ∧
               (
                allocW 28 [(.int .i64 0), (.bool false), (.string (ofL [])), (.slice none 0 0), (.slice none 0 0)] w920 fun t13 w930 =>
                (ldW true 5 t11 w930 fun x => x = t135) ∧
                (ldW true 5 t7 w930 fun x => x = t134) ∧
                bslW 28 3 [(.int .i64 0), (.bool false), (.string (ofL [])), (.slice none 0 0), (.slice none 0 0), (.int .i64 0), (.bool false), (.string (ofL [])), (.slice none 0 0), (.slice none 0 0), (.int .i64 0), (.bool false), (.string (ofL [])), (.slice none 0 0), (.slice none 0 0)] [(0, 5, t134), (5, 5, t135), (10, 5, t136)] w930 fun t137 w931 =>
                callV Tryz.prog (.func (.func 16) #[] #[]) [(.string (ofL [115, 117, 98, 115, 116, 114])), t137] w931 fun t138 w932 =>
                stW 5 t12 t132 w932 fun w933 =>
                stW 5 t13 t138 w933 fun w934 =>
          J856 [t12, t13] w934)) ∧
              (
               allocW 28 [(.int .i64 0), (.bool false), (.string (ofL [])), (.slice none 0 0), (.slice none 0 0)] w919 fun t13 w935 =>
               (ldW true 5 t11 w935 fun x => x = t135) ∧
               (ldW true 5 t7 w935 fun x => x = t134) ∧
               callF Tryz.prog 18 [(.int .i64 400)] w935 fun t136 w936 =>
               (ldW true 5 t11 w936 fun x => x = t135) ∧
               (ldW true 5 t7 w936 fun x => x = t134) ∧
               bslW 28 3 [(.int .i64 0), (.bool false), (.string (ofL [])), (.slice none 0 0), (.slice none 0 0), (.int .i64 0), (.bool false), (.string (ofL [])), (.slice none 0 0), (.slice none 0 0), (.int .i64 0), (.bool false), (.string (ofL [])), (.slice none 0 0), (.slice none 0 0)] [(0, 5, t134), (5, 5, t135), (10, 5, t136)] w936 fun t137 w937 =>
               callV Tryz.prog (.func (.func 16) #[] #[]) [(.string (ofL [115, 117, 98, 115, 116, 114])), t137] w937 fun t138 w938 =>
               stW 5 t12 t132 w938 fun w939 =>
               stW 5 t13 t138 w939 fun w940 =>
          J856 [t12, t13] w940)) ∧
             (
              allocW 28 [(.int .i64 0), (.bool false), (.string (ofL [])), (.slice none 0 0), (.slice none 0 0)] w859 fun t13 w941 =>
              (ldW true 5 t11 w941 fun x => x = t135) ∧
              (ldW true 5 t7 w941 fun x => x = t134) ∧
              (
               callF Tryz.prog 18 [(.int .i64 400)] w941 fun t136 w942 =>
               (ldW true 5 t11 w942 fun x => x = t135) ∧
               (ldW true 5 t7 w942 fun x => x = t134) ∧
               (
                bslW 28 3 [(.int .i64 0), (.bool false), (.string (ofL [])), (.slice none 0 0), (.slice none 0 0), (.int .i64 0), (.bool false), (.string (ofL [])), (.slice none 0 0), (.slice none 0 0), (.int .i64 0), (.bool false), (.string (ofL [])), (.slice none 0 0), (.slice none 0 0)] [(0, 5, t134), (5, 5, t135), (10, 5, t136)] w942 fun t137 w943 =>
                (
                 callV Tryz.prog (.func (.func 16) #[] #[]) [(.string (ofL [115, 117, 98, 115, 116, 114])), t137] w943 fun t138 w944 =>
                 allocW 28 [(.int .i64 0), (.bool false), (.string (ofL [])), (.slice none 0 0), (.slice none 0 0)] w944 fun t12 w945 =>
                 stW 5 t12 t132 w945 fun w946 =>
                 stW 5 t13 t138 w946 fun w947 =>
          J856 [t12, t13] w947) ∧
                (
                 allocW 28 [(.int .i64 0), (.bool false), (.string (ofL [])), (.slice none 0 0), (.slice none 0 0)] w943 fun t12 w948 =>
                 callV Tryz.prog (.func (.func 16) #[] #[]) [(.string (ofL [115, 117, 98, 115, 116, 114])), t137] w948 fun t138 w949 =>
                 stW 5 t12 t132 w949 fun w950 =>
                 stW 5 t13 t138 w950 fun w951 =>
          J856 [t12, t13] w951)) ∧
               (
                allocW 28 [(.int .i64 0), (.bool false), (.string (ofL [])), (.slice none 0 0), (.slice none 0 0)] w942 fun t12 w952 =>
                (ldW true 5 t11 w952 fun x => x = t135) ∧
                (ldW true 5 t7 w952 fun x => x = t134) ∧
                bslW 28 3 [(.int .i64 0), (.bool false), (.string (ofL [])), (.slice none 0 0), (.slice none 0 0), (.int .i64 0), (.bool false), (.string (ofL [])), (.slice none 0 0), (.slice none 0 0), (.int .i64 0), (.bool false), (.string (ofL [])), (.slice none 0 0), (.slice none 0 0)] [(0, 5, t134), (5, 5, t135), (10, 5, t136)] w952 fun t137 w953 =>
                callV Tryz.prog (.func (.func 16) #[] #[]) [(.string (ofL [115, 117, 98, 115, 116, 114])), t137] w953 fun t138 w954 =>
                stW 5 t12 t132 w954 fun w955 =>
                stW 5 t13 t138 w955 fun w956 =>
          J856 [t12, t13] w956)) ∧
              (
               allocW 28 [(.int .i64 0), (.bool false), (.string (ofL [])), (.slice none 0 0), (.slice none 0 0)] w941 fun t12 w957 =>
               (ldW true 5 t11 w957 fun x => x = t135) ∧
               (ldW true 5 t7 w957 fun x => x = t134) ∧
               callF Tryz.prog 18 [(.int .i64 400)] w957 fun t136 w958 =>
               (ldW true 5 t11 w958 fun x => x = t135) ∧
               (ldW true 5 t7 w958 fun x => x = t134) ∧
               bslW 28 3 [(.int .i64 0), (.bool false), (.string (ofL [])), (.slice none 0 0), (.slice none 0 0), (.int .i64 0), (.bool false), (.string (ofL [])), (.slice none 0 0), (.slice none 0 0), (.int .i64 0), (.bool false), (.string (ofL [])), (.slice none 0 0), (.slice none 0 0)] [(0, 5, t134), (5, 5, t135), (10, 5, t136)] w958 fun t137 w959 =>
               callV Tryz.prog (.func (.func 16) #[] #[]) [(.string (ofL [115, 117, 98, 115, 116, 114])), t137] w959 fun t138 w960 =>
               stW 5 t12 t132 w960 fun w961 =>
               stW 5 t13 t138 w961 fun w962 =>
          J856 [t12, t13] w962))) ∧
            (
             allocW 28 [(.int .i64 0), (.bool false), (.string (ofL [])), (.slice none 0 0), (.slice none 0 0)] w858 fun t12 w963 =>
             (ldW true 5 t11 w963 fun x => x = t135) ∧
             (ldW true 5 t7 w963 fun x => x = t134) ∧
             (
              callV Tryz.prog (.func (.func 16) #[] #[]) [(.string (ofL [115, 117, 98, 115, 116, 114])), t131] w963 fun t132 w964 =>
              (ldW true 5 t11 w964 fun x => x = t135) ∧
              (ldW true 5 t7 w964 fun x => x = t134) ∧
              (
               callF Tryz.prog 18 [(.int .i64 400)] w964 fun t136 w965 =>
               (ldW true 5 t11 w965 fun x => x = t135) ∧
               (ldW true 5 t7 w965 fun x => x = t134) ∧
               (
                bslW 28 3 [(.int .i64 0), (.bool false), (.string (ofL [])), (.slice none 0 0), (.slice none 0 0), (.int .i64 0), (.bool false), (.string (ofL [])), (.slice none 0 0), (.slice none 0 0), (.int .i64 0), (.bool false), (.string (ofL [])), (.slice none 0 0), (.slice none 0 0)] [(0, 5, t134), (5, 5, t135), (10, 5, t136)] w965 fun t137 w966 =>
                (
                 callV Tryz.prog (.func (.func 16) #[] #[]) [(.string (ofL [115, 117, 98, 115, 116, 114])), t137] w966 fun t138 w967 =>
                 allocW 28 [(.int .i64 0), (.bool false), (.string (ofL [])), (.slice none 0 0), (.slice none 0 0)] w967 fun t13 w968 =>
                 stW 5 t12 t132 w968 fun w969 =>
                 stW 5 t13 t138 w969 fun w970 =>
          J856 [t12, t13] w970) ∧
                (
                 allocW 28 [(.int .i64 0), (.bool false), (.string (ofL [])), (.slice none 0 0), (.slice none 0 0)] w966 fun t13 w971 =>
                 callV Tryz.prog (.func (.func 16) #[] #[]) [(.string (ofL [115, 117, 98, 115, 116, 114])), t137] w971 fun t138 w972 =>
                 stW 5 t12 t132 w972 fun w973 =>
                 stW 5 t13 t138 w973 fun w974 =>
          J856 [t12, t13] w974)) ∧
               (
                allocW 28 [(.int .i64 0), (.bool false), (.string (ofL [])), (.slice none 0 0), (.slice none 0 0)] w965 fun t13 w975 =>
                (ldW true 5 t11 w975 fun x => x = t135) ∧
                (ldW true 5 t7 w975 fun x => x = t134) ∧
                bslW 28 3 [(.int .i64 0), (.bool false), (.string (ofL [])), (.slice none 0 0), (.slice none 0 0), (.int .i64 0), (.bool false), (.string (ofL [])), (.slice none 0 0), (.slice none 0 0), (.int .i64 0), (.bool false), (.string (ofL [])), (.slice none 0 0), (.slice none 0 0)] [(0, 5, t134), (5, 5, t135), (10, 5, t136)] w975 fun t137 w976 =>
                callV Tryz.prog (.func (.func 16) #[] #[]) [(.string (ofL [115, 117, 98, 115, 116, 114])), t137] w976 fun t138 w977 =>
                stW 5 t12 t132 w977 fun w978 =>
                stW 5 t13 t138 w978 fun w979 =>
          J856 [t12, t13] w979)) ∧
              (
               allocW 28 [(.int .i64 0), (.bool false), (.string (ofL [])), (.slice none 0 0), (.slice none 0 0)] w964 fun t13 w980 =>
               (ldW true 5 t11 w980 fun x => x = t135) ∧
               (ldW true 5 t7 w980 fun x => x = t134) ∧
               callF Tryz.prog 18 [(.int .i64 400)] w980 fun t136 w981 =>
               (ldW true 5 t11 w981 fun x => x = t135) ∧
               (ldW true 5 t7 w981 fun x => x = t134) ∧
               bslW 28 3 [(.int .i64 0), (.bool false), (.string (ofL [])), (.slice none 0 0), (.slice none 0 0), (.int .i64 0), (.bool false), (.string (ofL [])), (.slice none 0 0), (.slice none 0 0), (.int .i64 0), (.bool false), (.string (ofL [])), (.slice none 0 0), (.slice none 0 0)] [(0, 5, t134), (5, 5, t135), (10, 5, t136)] w981 fun t137 w982 =>
               callV Tryz.prog (.func (.func 16) #[] #[]) [(.string (ofL [115, 117, 98, 115, 116, 114])), t137] w982 fun t138 w983 =>
               stW 5 t12 t132 w983 fun w984 =>
               stW 5 t13 t138 w984 fun w985 =>
          J856 [t12, t13] w985)) ∧
             (
              allocW 28 [(.int .i64 0), (.bool false), (.string (ofL [])), (.slice none 0 0), (.slice none 0 0)] w963 fun t13 w986 =>
              (ldW true 5 t11 w986 fun x => x = t135) ∧
              (ldW true 5 t7 w986 fun x => x = t134) ∧
              callV Tryz.prog (.func (.func 16) #[] #[]) [(.string (ofL [115, 117, 98, 115, 116, 114])), t131] w986 fun t132 w987 =>
              (ldW true 5 t11 w987 fun x => x = t135) ∧
              (ldW true 5 t7 w987 fun x => x = t134) ∧
              callF Tryz.prog 18 [(.int .i64 400)] w987 fun t136 w988 =>
              (ldW true 5 t11 w988 fun x => x = t135) ∧
              (ldW true 5 t7 w988 fun x => x = t134) ∧
              bslW 28 3 [(.int .i64 0), (.bool false), (.string (ofL [])), (.slice none 0 0), (.slice none 0 0), (.int .i64 0), (.bool false), (.string (ofL [])), (.slice none 0 0), (.slice none 0 0), (.int .i64 0), (.bool false), (.string (ofL [])), (.slice none 0 0), (.slice none 0 0)] [(0, 5, t134), (5, 5, t135), (10, 5, t136)] w988 fun t137 w989 =>
              callV Tryz.prog (.func (.func 16) #[] #[]) [(.string (ofL [115, 117, 98, 115, 116, 114])), t137] w989 fun t138 w990 =>
              stW 5 t12 t132 w990 fun w991 =>
              stW 5 t13 t138 w991 fun w992 =>
          J856 [t12, t13] w992)) ∧
            (
             allocW 28 [(.int .i64 0), (.bool false), (.string (ofL [])), (.slice none 0 0), (.slice none 0 0)] w858 fun t13 w993 =>
             (ldW true 5 t11 w993 fun x => x = t135) ∧
             (ldW true 5 t7 w993 fun x => x = t134) ∧
             (
              callV Tryz.prog (.func (.func 16) #[] #[]) [(.string (ofL [115, 117, 98, 115, 116, 114])), t131] w993 fun t132 w994 =>
              (ldW true 5 t11 w994 fun x => x = t135) ∧
              (ldW true 5 t7 w994 fun x => x = t134) ∧
              (
               callF Tryz.prog 18 [(.int .i64 400)] w994 fun t136 w995 =>
               (ldW true 5 t11 w995 fun x => x = t135) ∧
               (ldW true 5 t7 w995 fun x => x = t134) ∧
               (
                bslW 28 3 [(.int .i64 0), (.bool false), (.string (ofL [])), (.slice none 0 0), (.slice none 0 0), (.int .i64 0), (.bool false), (.string (ofL [])), (.slice none 0 0), (.slice none 0 0), (.int .i64 0), (.bool false), (.string (ofL [])), (.slice none 0 0), (.slice none 0 0)] [(0, 5, t134), (5, 5, t135), (10, 5, t136)] w995 fun t137 w996 =>
                (
                 callV Tryz.prog (.func (.func 16) #[] #[]) [(.string (ofL [115, 117, 98, 115, 116, 114])), t137] w996 fun t138 w997 =>
                 allocW 28 [(.int .i64 0), (.bool false), (.string (ofL [])), (.slice none 0 0), (.slice none 0 0)] w997 fun t12 w998 =>
                 stW 5 t12 t132 w998 fun w999 =>
                 stW 5 t13 t138 w999 fun w1000 =>
          J856 [t12, t13] w1000) ∧
                (
                 allocW 28 [(.int .i64 0), (.bool false), (.string (ofL [])), (.slice none 0 0), (.slice none 0 0)] w996 fun t12 w1001 =>
                 callV Tryz.prog (.func (.func 16) #[] #[]) [(.string (ofL [115, 117, 98, 115, 116, 114])), t137] w1001 fun t138 w1002 =>
                 stW 5 t12 t132 w1002 fun w1003 =>
                 stW 5 t13 t138 w1003 fun w1004 =>
          J856 [t12, t13] w1004)) ∧
               (
                allocW 28 [(.int .i64 0), (.bool false), (.string (ofL [])), (.slice none 0 0), (.slice none 0 0)] w995 fun t12 w1005 =>
                (ldW true 5 t11 w1005 fun x => x = t135) ∧
                (ldW true 5 t7 w1005 fun x => x = t134) ∧
                bslW 28 3 [(.int .i64 0), (.bool false), (.string (ofL [])), (.slice none 0 0), (.slice none 0 0), (.int .i64 0), (.bool false), (.string (ofL [])), (.slice none 0 0), (.slice none 0 0), (.int .i64 0), (.bool false), (.string (ofL [])), (.slice none 0 0), (.slice none 0 0)] [(0, 5, t134), (5, 5, t135), (10, 5, t136)] w1005 fun t137 w1006 =>
                callV Tryz.prog (.func (.func 16) #[] #[]) [(.string (ofL [115, 117, 98, 115, 116, 114])), t137] w1006 fun t138 w1007 =>
                stW 5 t12 t132 w1007 fun w1008 =>
                stW 5 t13 t138 w1008 fun w1009 =>
          J856 [t12, t13] w1009)) ∧
              (
               allocW 28 [(.int .i64 0), (.bool false), (.string (ofL [])), (.slice none 0 0), (.slice none 0 0)] w994 fun t12 w1010 =>
               (ldW true 5 t11 w1010 fun x => x = t135) ∧
               (ldW true 5 t7 w1010 fun x => x = t134) ∧
               callF Tryz.prog 18 [(.int .i64 400)] w1010 fun t136 w1011 =>
               (ldW true 5 t11 w1011 fun x => x = t135) ∧
               (ldW true 5 t7 w1011 fun x => x = t134) ∧
               bslW 28 3 [(.int .i64 0), (.bool false), (.string (ofL [])), (.slice none 0 0), (.slice none 0 0), (.int .i64 0), (.bool false), (.string (ofL [])), (.slice none 0 0), (.slice none 0 0), (.int .i64 0), (.bool false), (.string (ofL [])), (.slice none 0 0), (.slice none 0 0)] [(0, 5, t134), (5, 5, t135), (10, 5, t136)] w1011 fun t137 w1012 =>
               callV Tryz.prog (.func (.func 16) #[] #[]) [(.string (ofL [115, 117, 98, 115, 116, 114])), t137] w1012 fun t138 w1013 =>
               stW 5 t12 t132 w1013 fun w1014 =>
               stW 5 t13 t138 w1014 fun w1015 =>
          J856 [t12, t13] w1015)) ∧
             (
              allocW 28 [(.int .i64 0), (.bool false), (.string (ofL [])), (.slice none 0 0), (.slice none 0 0)] w993 fun t12 w1016 =>
              (ldW true 5 t11 w1016 fun x => x = t135) ∧
              (ldW true 5 t7 w1016 fun x => x = t134) ∧
              callV Tryz.prog (.func (.func 16) #[] #[]) [(.string (ofL [115, 117, 98, 115, 116, 114])), t131] w1016 fun t132 w1017 =>
              (ldW true 5 t11 w1017 fun x => x = t135) ∧
              (ldW true 5 t7 w1017 fun x => x = t134) ∧
              callF Tryz.prog 18 [(.int .i64 400)] w1017 fun t136 w1018 =>
              (ldW true 5 t11 w1018 fun x => x = t135) ∧
              (ldW true 5 t7 w1018 fun x => x = t134) ∧
              bslW 28 3 [(.int .i64 0), (.bool false), (.string (ofL [])), (.slice none 0 0), (.slice none 0 0), (.int .i64 0), (.bool false), (.string (ofL [])), (.slice none 0 0), (.slice none 0 0), (.int .i64 0), (.bool false), (.string (ofL [])), (.slice none 0 0), (.slice none 0 0)] [(0, 5, t134), (5, 5, t135), (10, 5, t136)] w1018 fun t137 w1019 =>
              callV Tryz.prog (.func (.func 16) #[] #[]) [(.string (ofL [115, 117, 98, 115, 116, 114])), t137] w1019 fun t138 w1020 =>
              stW 5 t12 t132 w1020 fun w1021 =>
              stW 5 t13 t138 w1021 fun w1022 =>
          J856 [t12, t13] w1022))) ∧
           (
            allocW 28 [(.int .i64 0), (.bool false), (.string (ofL [])), (.slice none 0 0), (.slice none 0 0)] w857 fun t12 w1023 =>
            (ldW true 5 t11 w1023 fun x => x = t135) ∧
            (ldW true 5 t7 w1023 fun x => x = t134) ∧
            (ldW true 5 t11 w1023 fun x => x = t130) ∧
            (ldW true 5 t7 w1023 fun x => x = t128) ∧
            (
             bslW 28 3 [(.int .i64 0), (.bool false), (.string (ofL [])), (.slice none 0 0), (.slice none 0 0), (.int .i64 0), (.bool false), (.string (ofL [])), (.slice none 0 0), (.slice none 0 0), (.int .i64 0), (.bool false), (.string (ofL [])), (.slice none 0 0), (.slice none 0 0)] [(0, 5, t128), (5, 5, t129), (10, 5, t130)] w1023 fun t131 w1024 =>
             (ldW true 5 t11 w1024 fun x => x = t135) ∧
             (ldW true 5 t7 w1024 fun x => x = t134) ∧
             (
              callV Tryz.prog (.func (.func 16) #[] #[]) [(.string (ofL [115, 117, 98, 115, 116, 114])), t131] w1024 fun t132 w1025 =>
              (ldW true 5 t11 w1025 fun x => x = t135) ∧
              (ldW true 5 t7 w1025 fun x => x = t134) ∧
              (
               callF Tryz.prog 18 [(.int .i64 400)] w1025 fun t136 w1026 =>
               (ldW true 5 t11 w1026 fun x => x = t135) ∧
               (ldW true 5 t7 w1026 fun x => x = t134) ∧
               (
                bslW 28 3 [(.int .i64 0), (.bool false), (.string (ofL [])), (.slice none 0 0), (.slice none 0 0), (.int .i64 0), (.bool false), (.string (ofL [])), (.slice none 0 0), (.slice none 0 0), (.int .i64 0), (.bool false), (.string (ofL [])), (.slice none 0 0), (.slice none 0 0)] [(0, 5, t134), (5, 5, t135), (10, 5, t136)] w1026 fun t137 w1027 =>
                (
                 callV Tryz.prog (.func (.func 16) #[] #[]) [(.string (ofL [115, 117, 98, 115, 116, 114])), t137] w1027 fun t138 w1028 =>
                 allocW 28 [(.int .i64 0), (.bool false), (.string (ofL [])), (.slice none 0 0), (.slice none 0 0)] w1028 fun t13 w1029 =>
                 stW 5 t12 t132 w1029 fun w1030 =>
                 stW 5 t13 t138 w1030 fun w1031 =>
          J856 [t12, t13] w1031) ∧
                (
                 allocW 28 [(.int .i64 0), (.bool false), (.string (ofL [])), (.slice none 0 0), (.slice none 0 0)] w1027 fun t13 w1032 =>
                 callV Tryz.prog (.func (.func 16) #[] #[]) [(.string (ofL [115, 117, 98, 115, 116, 114])), t137] w1032 fun t138 w1033 =>
                 stW 5 t12 t132 w1033 fun w1034 =>
                 stW 5 t13 t138 w1034 fun w1035 =>
          J856 [t12, t13] w1035)) ∧
               (
                allocW 28 [(.int .i64 0), (.bool false), (.string (ofL [])), (.slice none 0 0), (.slice none 0 0)] w1026 fun t13 w1036 =>
                (ldW true 5 t11 w1036 fun x => x = t135) ∧
                (ldW true 5 t7 w1036 fun x => x = t134) ∧
                bslW 28 3 [(.int .i64 0), (.bool false), (.string (ofL [])), (.slice none 0 0), (.slice none 0 0), (.int .i64 0), (.bool false), (.string (ofL [])), (.slice none 0 0), (.slice none 0 0), (.int .i64 0), (.bool false), (.string (ofL [])), (.slice none 0 0), (.slice none 0 0)] [(0, 5, t134), (5, 5, t135), (10, 5, t136)] w1036 fun t137 w1037 =>
                callV Tryz.prog (.func (.func 16) #[] #[]) [(.string (ofL [115, 117, 98, 115, 116, 114])), t137] w1037 fun t138 w1038 =>
                stW 5 t12 t132 w1038 fun w1039 =>
                stW 5 t13 t138 w1039 fun w1040 =>
          J856 [t12, t13] w1040)) ∧
              (
               allocW 28 [(.int .i64 0), (.bool false), (.string (ofL [])), (.slice none 0 0), (.slice none 0 0)] w1025 fun t13 w1041 =>
               (ldW true 5 t11 w1041 fun x => x = t135) ∧
               (ldW true 5 t7 w1041 fun x => x = t134) ∧
               callF Tryz.prog 18 [(.int .i64 400)] w1041 fun t136 w1042 =>
               (ldW true 5 t11 w1042 fun x => x = t135) ∧
               (ldW true 5 t7 w1042 fun x => x = t134) ∧
               bslW 28 3 [(.int .i64 0), (.bool false), (.string (ofL [])), (.slice none 0 0), (.slice none 0 0), (.int .i64 0), (.bool false), (.string (ofL [])), (.slice none 0 0), (.slice none 0 0), (.int .i64 0), (.bool false), (.string (ofL [])), (.slice none 0 0), (.slice none 0 0)] [(0, 5, t134), (5, 5, t135), (10, 5, t136)] w1042 fun t137 w1043 =>
               callV Tryz.prog (.func (.func 16) #[] #[]) [(.string (ofL [115, 117, 98, 115, 116, 114])), t137] w1043 fun t138 w1044 =>
               stW 5 t12 t132 w1044 fun w1045 =>
               stW 5 t13 t138 w1045 fun w1046 =>
          J856 [t12, t13] w1046)) ∧
             (
              allocW 28 [(.int .i64 0), (.bool false), (.string (ofL [])), (.slice none 0 0), (.slice none 0 0)] w1024 fun t13 w1047 =>
              (ldW true 5 t11 w1047 fun x => x = t135) ∧
              (ldW true 5 t7 w1047 fun x => x = t134) ∧
              callV Tryz.prog (.func (.func 16) #[] #[]) [(.string (ofL [115, 117, 98, 115, 116, 114])), t131] w1047 fun t132 w1048 =>
              (ldW true 5 t11 w1048 fun x => x = t135) ∧
              (ldW true 5 t7 w1048 fun x => x = t134) ∧
              callF Tryz.prog 18 [(.int .i64 400)] w1048 fun t136 w1049 =>
              (ldW true 5 t11 w1049 fun x => x = t135) ∧
              (ldW true 5 t7 w1049 fun x => x = t134) ∧
              bslW 28 3 [(.int .i64 0), (.bool false), (.string (ofL [])), (.slice none 0 0), (.slice none 0 0), (.int .i64 0), (.bool false), (.string (ofL [])), (.slice none 0 0), (.slice none 0 0), (.int .i64 0), (.bool false), (.string (ofL [])), (.slice none 0 0), (.slice none 0 0)] [(0, 5, t134), (5, 5, t135), (10, 5, t136)] w1049 fun t137 w1050 =>
              callV Tryz.prog (.func (.func 16) #[] #[]) [(.string (ofL [115, 117, 98, 115, 116, 114])), t137] w1050 fun t138 w1051 =>
              stW 5 t12 t132 w1051 fun w1052 =>
              stW 5 t13 t138 w1052 fun w1053 =>
          J856 [t12, t13] w1053)) ∧
            (
             allocW 28 [(.int .i64 0), (.bool false), (.string (ofL [])), (.slice none 0 0), (.slice none 0 0)] w1023 fun t13 w1054 =>
             (ldW true 5 t11 w1054 fun x => x = t135) ∧
             (ldW true 5 t7 w1054 fun x => x = t134) ∧
             (ldW true 5 t11 w1054 fun x => x = t130) ∧
             (ldW true 5 t7 w1054 fun x => x = t128) ∧
             bslW 28 3 [(.int .i64 0), (.bool false), (.string (ofL [])), (.slice none 0 0), (.slice none 0 0), (.int .i64 0), (.bool false), (.string (ofL [])), (.slice none 0 0), (.slice none 0 0), (.int .i64 0), (.bool false), (.string (ofL [])), (.slice none 0 0), (.slice none 0 0)] [(0, 5, t128), (5, 5, t129), (10, 5, t130)] w1054 fun t131 w1055 =>
             (ldW true 5 t11 w1055 fun x => x = t135) ∧
             (ldW true 5 t7 w1055 fun x => x = t134) ∧
             callV Tryz.prog (.func (.func 16) #[] #[]) [(.string (ofL [115, 117, 98, 115, 116, 114])), t131] w1055 fun t132 w1056 =>
             (ldW true 5 t11 w1056 fun x => x = t135) ∧
             (ldW true 5 t7 w1056 fun x => x = t134) ∧
             callF Tryz.prog 18 [(.int .i64 400)] w1056 fun t136 w1057 =>
             (ldW true 5 t11 w1057 fun x => x = t135) ∧
             (ldW true 5 t7 w1057 fun x => x = t134) ∧
             bslW 28 3 [(.int .i64 0), (.bool false), (.string (ofL [])), (.slice none 0 0), (.slice none 0 0), (.int .i64 0), (.bool false), (.string (ofL [])), (.slice none 0 0), (.slice none 0 0), (.int .i64 0), (.bool false), (.string (ofL [])), (.slice none 0 0), (.slice none 0 0)] [(0, 5, t134), (5, 5, t135), (10, 5, t136)] w1057 fun t137 w1058 =>
             callV Tryz.prog (.func (.func 16) #[] #[]) [(.string (ofL [115, 117, 98, 115, 116, 114])), t137] w1058 fun t138 w1059 =>
             stW 5 t12 t132 w1059 fun w1060 =>
             stW 5 t13 t138 w1060 fun w1061 =>
          J856 [t12, t13] w1061)) ∧
           (
            allocW 28 [(.int .i64 0), (.bool false), (.string (ofL [])), (.slice none 0 0), (.slice none 0 0)] w857 fun t13 w1062 =>
            (ldW true 5 t11 w1062 fun x => x = t135) ∧
            (ldW true 5 t7 w1062 fun x => x = t134) ∧
            (ldW true 5 t11 w1062 fun x => x = t130) ∧
            (ldW true 5 t7 w1062 fun x => x = t128) ∧
            (
             bslW 28 3 [(.int .i64 0), (.bool false), (.string (ofL [])), (.slice none 0 0), (.slice none 0 0), (.int .i64 0), (.bool false), (.string (ofL [])), (.slice none 0 0), (.slice none 0 0), (.int .i64 0), (.bool false), (.string (ofL [])), (.slice none 0 0), (.slice none 0 0)] [(0, 5, t128), (5, 5, t129), (10, 5, t130)] w1062 fun t131 w1063 =>
             (ldW true 5 t11 w1063 fun x => x = t135) ∧
             (ldW true 5 t7 w1063 fun x => x = t134) ∧
             (
              callV Tryz.prog (.func (.func 16) #[] #[]) [(.string (ofL [115, 117, 98, 115, 116, 114])), t131] w1063 fun t132 w1064 =>
              (ldW true 5 t11 w1064 fun x => x = t135) ∧
              (ldW true 5 t7 w1064 fun x => x = t134) ∧
              (
               callF Tryz.prog 18 [(.int .i64 400)] w1064 fun t136 w1065 =>
               (ldW true 5 t11 w1065 fun x => x = t135) ∧
               (ldW true 5 t7 w1065 fun x => x = t134) ∧
               (
                bslW 28 3 [(.int .i64 0), (.bool false), (.string (ofL [])), (.slice none 0 0), (.slice none 0 0), (.int .i64 0), (.bool false), (.string (ofL [])), (.slice none 0 0), (.slice none 0 0), (.int .i64 0), (.bool false), (.string (ofL [])), (.slice none 0 0), (.slice none 0 0)] [(0, 5, t134), (5, 5, t135), (10, 5, t136)] w1065 fun t137 w1066 =>
                (
                 callV Tryz.prog (.func (.func 16) #[] #[]) [(.string (ofL [115, 117, 98, 115, 116, 114])), t137] w1066 fun t138 w1067 =>
                 allocW 28 [(.int .i64 0), (.bool false), (.string (ofL [])), (.slice none 0 0), (.slice none 0 0)] w1067 fun t12 w1068 =>
                 stW 5 t12 t132 w1068 fun w1069 =>
                 stW 5 t13 t138 w1069 fun w1070 =>
          J856 [t12, t13] w1070) ∧
                (
                 allocW 28 [(.int .i64 0), (.bool false), (.string (ofL [])), (.slice none 0 0), (.slice none 0 0)] w1066 fun t12 w1071 =>
                 callV Tryz.prog (.func (.func 16) #[] #[]) [(.string (ofL [115, 117, 98, 115, 116, 114])), t137] w1071 fun t138 w1072 =>
                 stW 5 t12 t132 w1072 fun w1073 =>
                 stW 5 t13 t138 w1073 fun w1074 =>
          J856 [t12, t13] w1074)) ∧
               (
                allocW 28 [(.int .i64 0), (.bool false), (.string (ofL [])), (.slice none 0 0), (.slice none 0 0)] w1065 fun t12 w1075 =>
                (ldW true 5 t11 w1075 fun x => x = t135) ∧
                (ldW true 5 t7 w1075 fun x => x = t134) ∧
                bslW 28 3 [(.int .i64 0), (.bool false), (.string (ofL [])), (.slice none 0 0), (.slice none 0 0), (.int .i64 0), (.bool false), (.string (ofL [])), (.slice none 0 0), (.slice none 0 0), (.int .i64 0), (.bool false), (.string (ofL [])), (.slice none 0 0), (.slice none 0 0)] [(0, 5, t134), (5, 5, t135), (10, 5, t136)] w1075 fun t137 w1076 =>
                callV Tryz.prog (.func (.func 16) #[] #[]) [(.string (ofL [115, 117, 98, 115, 116, 114])), t137] w1076 fun t138 w1077 =>
                stW 5 t12 t132 w1077 fun w1078 =>
                stW 5 t13 t138 w1078 fun w1079 =>
          J856 [t12, t13] w1079)) ∧
              (
               allocW 28 [(.int .i64 0), (.bool false), (.string (ofL [])), (.slice none 0 0), (.slice none 0 0)] w1064 fun t12 w1080 =>
               (ldW true 5 t11 w1080 fun x => x = t135) ∧
               (ldW true 5 t7 w1080 fun x => x = t134) ∧
               callF Tryz.prog 18 [(.int .i64 400)] w1080 fun t136 w1081 =>
               (ldW true 5 t11 w1081 fun x => x = t135) ∧
               (ldW true 5 t7 w1081 fun x => x = t134) ∧
               bslW 28 3 [(.int .i64 0), (.bool false), (.string (ofL [])), (.slice none 0 0), (.slice none 0 0), (.int .i64 0), (.bool false), (.string (ofL [])), (.slice none 0 0), (.slice none 0 0), (.int .i64 0), (.bool false), (.string (ofL [])), (.slice none 0 0), (.slice none 0 0)] [(0, 5, t134), (5, 5, t135), (10, 5, t136)] w1081 fun t137 w1082 =>
               callV Tryz.prog (.func (.func 16) #[] #[]) [(.string (ofL [115, 117, 98, 115, 116, 114])), t137] w1082 fun t138 w1083 =>
               stW 5 t12 t132 w1083 fun w1084 =>
               stW 5 t13 t138 w1084 fun w1085 =>
          J856 [t12, t13] w1085)) ∧
             (
              allocW 28 [(.int .i64 0), (.bool false), (.string (ofL [])), (.slice none 0 0), (.slice none 0 0)] w1063 fun t12 w1086 =>
              (ldW true 5 t11 w1086 fun x => x = t135) ∧
              (ldW true 5 t7 w1086 fun x => x = t134) ∧
              callV Tryz.prog (.func (.func 16) #[] #[]) [(.string (ofL [115, 117, 98, 115, 116, 114])), t131] w1086 fun t132 w1087 =>
              (ldW true 5 t11 w1087 fun x => x = t135) ∧
              (ldW true 5 t7 w1087 fun x => x = t134) ∧
              callF Tryz.prog 18 [(.int .i64 400)] w1087 fun t136 w1088 =>
              (ldW true 5 t11 w1088 fun x => x = t135) ∧
              (ldW true 5 t7 w1088 fun x => x = t134) ∧
              bslW 28 3 [(.int .i64 0), (.bool false), (.string (ofL [])), (.slice none 0 0), (.slice none 0 0), (.int .i64 0), (.bool false), (.string (ofL [])), (.slice none 0 0), (.slice none 0 0), (.int .i64 0), (.bool false), (.string (ofL [])), (.slice none 0 0), (.slice none 0 0)] [(0, 5, t134), (5, 5, t135), (10, 5, t136)] w1088 fun t137 w1089 =>
              callV Tryz.prog (.func (.func 16) #[] #[]) [(.string (ofL [115, 117, 98, 115, 116, 114])), t137] w1089 fun t138 w1090 =>
              stW 5 t12 t132 w1090 fun w1091 =>
              stW 5 t13 t138 w1091 fun w1092 =>
          J856 [t12, t13] w1092)) ∧
            (
             allocW 28 [(.int .i64 0), (.bool false), (.string (ofL [])), (.slice none 0 0), (.slice none 0 0)] w1062 fun t12 w1093 =>
             (ldW true 5 t11 w1093 fun x => x = t135) ∧
             (ldW true 5 t7 w1093 fun x => x = t134) ∧
             (ldW true 5 t11 w1093 fun x => x = t130) ∧
             (ldW true 5 t7 w1093 fun x => x = t128) ∧
             bslW 28 3 [(.int .i64 0), (.bool false), (.string (ofL [])), (.slice none 0 0), (.slice none 0 0), (.int .i64 0), (.bool false), (.string (ofL [])), (.slice none 0 0), (.slice none 0 0), (.int .i64 0), (.bool false), (.string (ofL [])), (.slice none 0 0), (.slice none 0 0)] [(0, 5, t128), (5, 5, t129), (10, 5, t130)] w1093 fun t131 w1094 =>
             (ldW true 5 t11 w1094 fun x => x = t135) ∧
             (ldW true 5 t7 w1094 fun x => x = t134) ∧
             callV Tryz.prog (.func (.func 16) #[] #[]) [(.string (ofL [115, 117, 98, 115, 116, 114])), t131] w1094 fun t132 w1095 =>
             (ldW true 5 t11 w1095 fun x => x = t135) ∧
             (ldW true 5 t7 w1095 fun x => x = t134) ∧
             callF Tryz.prog 18 [(.int .i64 400)] w1095 fun t136 w1096 =>
             (ldW true 5 t11 w1096 fun x => x = t135) ∧
             (ldW true 5 t7 w1096 fun x => x = t134) ∧
             bslW 28 3 [(.int .i64 0), (.bool false), (.string (ofL [])), (.slice none 0 0), (.slice none 0 0), (.int .i64 0), (.bool false), (.string (ofL [])), (.slice none 0 0), (.slice none 0 0), (.int .i64 0), (.bool false), (.string (ofL [])), (.slice none 0 0), (.slice none 0 0)] [(0, 5, t134), (5, 5, t135), (10, 5, t136)] w1096 fun t137 w1097 =>
             callV Tryz.prog (.func (.func 16) #[] #[]) [(.string (ofL [115, 117, 98, 115, 116, 114])), t137] w1097 fun t138 w1098 =>
             stW 5 t12 t132 w1098 fun w1099 =>
             stW 5 t13 t138 w1099 fun w1100 =>
          J856 [t12, t13] w1100))) ∧
          (
           allocW 28 [(.int .i64 0), (.bool false), (.string (ofL [])), (.slice none 0 0), (.slice none 0 0)] w855.drew fun t12 w1101 =>
           (ldW true 5 t11 w1101 fun x => x = t135) ∧
           (ldW true 5 t7 w1101 fun x => x = t134) ∧
           (ldW true 5 t11 w1101 fun x => x = t130) ∧
           (ldW true 5 t7 w1101 fun x => x = t128) ∧
           (
            callF Tryz.prog 18 [(.int .i64 0)] w1101 fun t129 w1102 =>
            (ldW true 5 t11 w1102 fun x => x = t135) ∧
            (ldW true 5 t7 w1102 fun x => x = t134) ∧
            (ldW true 5 t11 w1102 fun x => x = t130) ∧
            (ldW true 5 t7 w1102 fun x => x = t128) ∧
            (
             bslW 28 3 [(.int .i64 0), (.bool false), (.string (ofL [])), (.slice none 0 0), (.slice none 0 0), (.int .i64 0), (.bool false), (.string (ofL [])), (.slice none 0 0), (.slice none 0 0), (.int .i64 0), (.bool false), (.string (ofL [])), (.slice none 0 0), (.slice none 0 0)] [(0, 5, t128), (5, 5, t129), (10, 5, t130)] w1102 fun t131 w1103 =>
             (ldW true 5 t11 w1103 fun x => x = t135) ∧
             (ldW true 5 t7 w1103 fun x => x = t134) ∧
             (
              callV Tryz.prog (.func (.func 16) #[] #[]) [(.string (ofL [115, 117, 98, 115, 116, 114])), t131] w1103 fun t132 w1104 =>
              (ldW true 5 t11 w1104 fun x => x = t135) ∧
              (ldW true 5 t7 w1104 fun x => x = t134) ∧
              (
               callF Tryz.prog 18 [(.int .i64 400)] w1104 fun t136 w1105 =>
               (ldW true 5 t11 w1105 fun x => x = t135) ∧
               (ldW true 5 t7 w1105 fun x => x = t134) ∧
               (
                bslW 28 3 [(.int .i64 0), (.bool false), (.string (ofL [])), (.slice none 0 0), (.slice none 0 0), (.int .i64 0), (.bool false), (.string (ofL [])), (.slice none 0 0), (.slice none 0 0), (.int .i64 0), (.bool false), (.string (ofL [])), (.slice none 0 0), (.slice none 0 0)] [(0, 5, t134), (5, 5, t135), (10, 5, t136)] w1105 fun t137 w1106 =>
                (
                 callV Tryz.prog (.func (.func 16) #[] #[]) [(.string (ofL [115, 117, 98, 115, 116, 114])), t137] w1106 fun t138 w1107 =>
                 allocW 28 [(.int .i64 0), (.bool false), (.string (ofL [])), (.slice none 0 0), (.slice none 0 0)] w1107 fun t13 w1108 =>
                 stW 5 t12 t132 w1108 fun w1109 =>
                 stW 5 t13 t138 w1109 fun w1110 =>
          J856 [t12, t13] w1110) ∧
                (
                 allocW 28 [(.int .i64 0), (.bool false), (.string (ofL [])), (.slice none 0 0), (.slice none 0 0)] w1106 fun t13 w1111 =>
                 callV Tryz.prog (.func (.func 16) #[] #[]) [(.string (ofL [115, 117, 98, 115, 116, 114])), t137] w1111 fun t138 w1112 =>
                 stW 5 t12 t132 w1112 fun w1113 =>
                 stW 5 t13 t138 w1113 fun w1114 =>
          J856 [t12, t13] w1114)) ∧
               (
                allocW 28 [(.int .i64 0), (.bool false), (.string (ofL [])), (.slice none 0 0), (.slice none 0 0)] w1105 fun t13 w1115 =>
                (ldW true 5 t11 w1115 fun x => x = t135) ∧
                (ldW true 5 t7 w1115 fun x => x = t134) ∧
                bslW 28 3 [(.int .i64 0), (.bool false), (.string (ofL [])), (.slice none 0 0), (.slice none 0 0), (.int .i64 0), (.bool false), (.string (ofL [])), (.slice none 0 0), (.slice none 0 0), (.int .i64 0), (.bool false), (.string (ofL [])), (.slice none 0 0), (.slice none 0 0)] [(0, 5, t134), (5, 5, t135), (10, 5, t136)] w1115 fun t137 w1116 =>
                callV Tryz.prog (.func (.func 16) #[] #[]) [(.string (ofL [115, 117, 98, 115, 116, 114])), t137] w1116 fun t138 w1117 =>
                stW 5 t12 t132 w1117 fun w1118 =>
                stW 5 t13 t138 w1118 fun w1119 =>
          J856 [t12, t13] w1119)) ∧
              (
               allocW 28 [(.int .i64 0), (.bool false), (.string (ofL [])), (.slice none 0 0), (.slice none 0 0)] w1104 fun t13 w1120 =>
               (ldW true 5 t11 w1120 fun x => x = t135) ∧
               (ldW true 5 t7 w1120 fun x => x = t134) ∧
               callF Tryz.prog 18 [(.int .i64 400)] w1120 fun t136 w1121 =>
               (ldW true 5 t11 w1121 fun x => x = t135) ∧
               (ldW true 5 t7 w1121 fun x => x = t134) ∧
               bslW 28 3 [(.int .i64 0), (.bool false), (.string (ofL [])), (.slice none 0 0), (.slice none 0 0), (.int .i64 0), (.bool false), (.string (ofL [])), (.slice none 0 0), (.slice none 0 0), (.int .i64 0), (.bool false), (.string (ofL [])), (.slice none 0 0), (.slice none 0 0)] [(0, 5, t134), (5, 5, t135), (10, 5, t136)] w1121 fun t137 w1122 =>
               callV Tryz.prog (.func (.func 16) #[] #[]) [(.string (ofL [115, 117, 98, 115, 116, 114])), t137] w1122 fun t138 w1123 =>
               stW 5 t12 t132 w1123 fun w1124 =>
               stW 5 t13 t138 w1124 fun w1125 =>
          J856 [t12, t13] w1125)) ∧
             (
              allocW 28 [(.int .i64 0), (.bool false), (.string (ofL [])), (.slice none 0 0), (.slice none 0 0)] w1103 fun t13 w1126 =>
              (ldW true 5 t11 w1126 fun x => x = t135) ∧
              (ldW true 5 t7 w1126 fun x => x = t134) ∧
              callV Tryz.prog (.func (.func 16) #[] #[]) [(.string (ofL [115, 117, 98, 115, 116, 114])), t131] w1126 fun t132 w1127 =>
              (ldW true 5 t11 w1127 fun x => x = t135) ∧
              (ldW true 5 t7 w1127 fun x => x = t134) ∧
              callF Tryz.prog 18 [(.int .i64 400)] w1127 fun t136 w1128 =>
              (ldW true 5 t11 w1128 fun x => x = t135) ∧
              (ldW true 5 t7 w1128 fun x => x = t134) ∧
              bslW 28 3 [(.int .i64 0), (.bool false), (.string (ofL [])), (.slice none 0 0), (.slice none 0 0), (.int .i64 0), (.bool false), (.string (ofL [])), (.slice none 0 0), (.slice none 0 0), (.int .i64 0), (.bool false), (.string (ofL [])), (.slice none 0 0), (.slice none 0 0)] [(0, 5, t134), (5, 5, t135), (10, 5, t136)] w1128 fun t137 w1129 =>
              callV Tryz.prog (.func (.func 16) #[] #[]) [(.string (ofL [115, 117, 98, 115, 116, 114])), t137] w1129 fun t138 w1130 =>
              stW 5 t12 t132 w1130 fun w1131 =>
              stW 5 t13 t138 w1131 fun w1132 =>
          J856 [t12, t13] w1132)) ∧
            (
             allocW 28 [(.int .i64 0), (.bool false), (.string (ofL [])), (.slice none 0 0), (.slice none 0 0)] w1102 fun t13 w1133 =>
             (ldW true 5 t11 w1133 fun x => x = t135) ∧
             (ldW true 5 t7 w1133 fun x => x = t134) ∧
             (ldW true 5 t11 w1133 fun x => x = t130) ∧
             (ldW true 5 t7 w1133 fun x => x = t128) ∧
             bslW 28 3 [(.int .i64 0), (.bool false), (.string (ofL [])), (.slice none 0 0), (.slice none 0 0), (.int .i64 0), (.bool false), (.string (ofL [])), (.slice none 0 0), (.slice none 0 0), (.int .i64 0), (.bool false), (.string (ofL [])), (.slice none 0 0), (.slice none 0 0)] [(0, 5, t128), (5, 5, t129), (10, 5, t130)] w1133 fun t131 w1134 =>
             (ldW true 5 t11 w1134 fun x => x = t135) ∧
             (ldW true 5 t7 w1134 fun x => x = t134) ∧
             callV Tryz.prog (.func (.func 16) #[] #[]) [(.string (ofL [115, 117, 98, 115, 116, 114])), t131] w1134 fun t132 w1135 =>
             (ldW true 5 t11 w1135 fun x => x = t135) ∧
             (ldW true 5 t7 w1135 fun x => x = t134) ∧
             callF Tryz.prog 18 [(.int .i64 400)] w1135 fun t136 w1136 =>
             (ldW true 5 t11 w1136 fun x => x = t135) ∧
             (ldW true 5 t7 w1136 fun x => x = t134) ∧
             bslW 28 3 [(.int .i64 0), (.bool false), (.string (ofL [])), (.slice none 0 0), (.slice none 0 0), (.int .i64 0), (.bool false), (.string (ofL [])), (.slice none 0 0), (.slice none 0 0), (.int .i64 0), (.bool false), (.string (ofL [])), (.slice none 0 0), (.slice none 0 0)] [(0, 5, t134), (5, 5, t135), (10, 5, t136)] w1136 fun t137 w1137 =>
             callV Tryz.prog (.func (.func 16) #[] #[]) [(.string (ofL [115, 117, 98, 115, 116, 114])), t137] w1137 fun t138 w1138 =>
             stW 5 t12 t132 w1138 fun w1139 =>
             stW 5 t13 t138 w1139 fun w1140 =>
          J856 [t12, t13] w1140)) ∧
           (
            allocW 28 [(.int .i64 0), (.bool false), (.string (ofL [])), (.slice none 0 0), (.slice none 0 0)] w1101 fun t13 w1141 =>
            (ldW true 5 t11 w1141 fun x => x = t135) ∧
            (ldW true 5 t7 w1141 fun x => x = t134) ∧
            (ldW true 5 t11 w1141 fun x => x = t130) ∧
            (ldW true 5 t7 w1141 fun x => x = t128) ∧
            callF Tryz.prog 18 [(.int .i64 0)] w1141 fun t129 w1142 =>
            (ldW true 5 t11 w1142 fun x => x = t135) ∧
            (ldW true 5 t7 w1142 fun x => x = t134) ∧
            (ldW true 5 t11 w1142 fun x => x = t130) ∧
            (ldW true 5 t7 w1142 fun x => x = t128) ∧
            bslW 28 3 [(.int .i64 0), (.bool false), (.string (ofL [])), (.slice none 0 0), (.slice none 0 0), (.int .i64 0), (.bool false), (.string (ofL [])), (.slice none 0 0), (.slice none 0 0), (.int .i64 0), (.bool false), (.string (ofL [])), (.slice none 0 0), (.slice none 0 0)] [(0, 5, t128), (5, 5, t129), (10, 5, t130)] w1142 fun t131 w1143 =>
            (ldW true 5 t11 w1143 fun x => x = t135) ∧
            (ldW true 5 t7 w1143 fun x => x = t134) ∧
            callV Tryz.prog (.func (.func 16) #[] #[]) [(.string (ofL [115, 117, 98, 115, 116, 114])), t131] w1143 fun t132 w1144 =>
            (ldW true 5 t11 w1144 fun x => x = t135) ∧
            (ldW true 5 t7 w1144 fun x => x = t134) ∧
            callF Tryz.prog 18 [(.int .i64 400)] w1144 fun t136 w1145 =>
            (ldW true 5 t11 w1145 fun x => x = t135) ∧
            (ldW true 5 t7 w1145 fun x => x = t134) ∧
            bslW 28 3 [(.int .i64 0), (.bool false), (.string (ofL [])), (.slice none 0 0), (.slice none 0 0), (.int .i64 0), (.bool false), (.string (ofL [])), (.slice none 0 0), (.slice none 0 0), (.int .i64 0), (.bool false), (.string (ofL [])), (.slice none 0 0), (.slice none 0 0)] [(0, 5, t134), (5, 5, t135), (10, 5, t136)] w1145 fun t137 w1146 =>
            callV Tryz.prog (.func (.func 16) #[] #[]) [(.string (ofL [115, 117, 98, 115, 116, 114])), t137] w1146 fun t138 w1147 =>
            stW 5 t12 t132 w1147 fun w1148 =>
            stW 5 t13 t138 w1148 fun w1149 =>
          J856 [t12, t13] w1149)) ∧
          (
           allocW 28 [(.int .i64 0), (.bool false), (.string (ofL [])), (.slice none 0 0), (.slice none 0 0)] w855.drew fun t13 w1150 =>
           (ldW true 5 t11 w1150 fun x => x = t135) ∧
           (ldW true 5 t7 w1150 fun x => x = t134) ∧
           (ldW true 5 t11 w1150 fun x => x = t130) ∧
           (ldW true 5 t7 w1150 fun x => x = t128) ∧
           (
            callF Tryz.prog 18 [(.int .i64 0)] w1150 fun t129 w1151 =>
            (ldW true 5 t11 w1151 fun x => x = t135) ∧
            (ldW true 5 t7 w1151 fun x => x = t134) ∧
            (ldW true 5 t11 w1151 fun x => x = t130) ∧
            (ldW true 5 t7 w1151 fun x => x = t128) ∧
            (
             bslW 28 3 [(.int .i64 0), (.bool false), (.string (ofL [])), (.slice none 0 0), (.slice none 0 0), (.int .i64 0), (.bool false), (.string (ofL [])), (.slice none 0 0), (.slice none 0 0), (.int .i64 0), (.bool false), (.string (ofL [])), (.slice none 0 0), (.slice none 0 0)] [(0, 5, t128), (5, 5, t129), (10, 5, t130)] w1151 fun t131 w1152 =>
             (ldW true 5 t11 w1152 fun x => x = t135) ∧
             (ldW true 5 t7 w1152 fun x => x = t134) ∧
             (
              callV Tryz.prog (.func (.func 16) #[] #[]) [(.string (ofL [115, 117, 98, 115, 116, 114])), t131] w1152 fun t132 w1153 =>
              (ldW true 5 t11 w1153 fun x => x = t135) ∧
              (ldW true 5 t7 w1153 fun x => x = t134) ∧
              (
               callF Tryz.prog 18 [(.int .i64 400)] w1153 fun t136 w1154 =>
               (ldW true 5 t11 w1154 fun x => x = t135) ∧
               (ldW true 5 t7 w1154 fun x => x = t134) ∧
               (
                bslW 28 3 [(.int .i64 0), (.bool false), (.string (ofL [])), (.slice none 0 0), (.slice none 0 0), (.int .i64 0), (.bool false), (.string (ofL [])), (.slice none 0 0), (.slice none 0 0), (.int .i64 0), (.bool false), (.string (ofL [])), (.slice none 0 0), (.slice none 0 0)] [(0, 5, t134), (5, 5, t135), (10, 5, t136)] w1154 fun t137 w1155 =>
                (
                 callV Tryz.prog (.func (.func 16) #[] #[]) [(.string (ofL [115, 117, 98, 115, 116, 114])), t137] w1155 fun t138 w1156 =>
                 allocW 28 [(.int .i64 0), (.bool false), (.string (ofL [])), (.slice none 0 0), (.slice none 0 0)] w1156 fun t12 w1157 =>
                 stW 5 t12 t132 w1157 fun w1158 =>
                 stW 5 t13 t138 w1158 fun w1159 =>
          J856 [t12, t13] w1159) ∧
                (
                 allocW 28 [(.int .i64 0), (.bool false), (.string (ofL [])), (.slice none 0 0), (.slice none 0 0)] w1155 fun t12 w1160 =>
                 callV Tryz.prog (.func (.func 16) #[] #[]) [(.string (ofL [115, 117, 98, 115, 116, 114])), t137] w1160 fun t138 w1161 =>
                 stW 5 t12 t132 w1161 fun w1162 =>
                 stW 5 t13 t138 w1162 fun w1163 =>
          J856 [t12, t13] w1163)) ∧
               (
                allocW 28 [(.int .i64 0), (.bool false), (.string (ofL [])), (.slice none 0 0), (.slice none 0 0)] w1154 fun t12 w1164 =>
                (ldW true 5 t11 w1164 fun x => x = t135) ∧
                (ldW true 5 t7 w1164 fun x => x = t134) ∧
                bslW 28 3 [(.int .i64 0), (.bool false), (.string (ofL [])), (.slice none 0 0), (.slice none 0 0), (.int .i64 0), (.bool false), (.string (ofL [])), (.slice none 0 0), (.slice none 0 0), (.int .i64 0), (.bool false), (.string (ofL [])), (.slice none 0 0), (.slice none 0 0)] [(0, 5, t134), (5, 5, t135), (10, 5, t136)] w1164 fun t137 w1165 =>
                callV Tryz.prog (.func (.func 16) #[] #[]) [(.string (ofL [115, 117, 98, 115, 116, 114])), t137] w1165 fun t138 w1166 =>
                stW 5 t12 t132 w1166 fun w1167 =>
                stW 5 t13 t138 w1167 fun w1168 =>
          J856 [t12, t13] w1168)) ∧
              (
               allocW 28 [(.int .i64 0), (.bool false), (.string (ofL [])), (.slice none 0 0), (.slice none 0 0)] w1153 fun t12 w1169 =>
               (ldW true 5 t11 w1169 fun x => x = t135) ∧
               (ldW true 5 t7 w1169 fun x => x = t134) ∧
               callF Tryz.prog 18 [(.int .i64 400)] w1169 fun t136 w1170 =>
               (ldW true 5 t11 w1170 fun x => x = t135) ∧
               (ldW true 5 t7 w1170 fun x => x = t134) ∧
               bslW 28 3 [(.int .i64 0), (.bool false), (.string (ofL [])), (.slice none 0 0), (.slice none 0 0), (.int .i64 0), (.bool false), (.string (ofL [])), (.slice none 0 0), (.slice none 0 0), (.int .i64 0), (.bool false), (.string (ofL [])), (.slice none 0 0), (.slice none 0 0)] [(0, 5, t134), (5, 5, t135), (10, 5, t136)] w1170 fun t137 w1171 =>
               callV Tryz.prog (.func (.func 16) #[] #[]) [(.string (ofL [115, 117, 98, 115, 116, 114])), t137] w1171 fun t138 w1172 =>
               stW 5 t12 t132 w1172 fun w1173 =>
               stW 5 t13 t138 w1173 fun w1174 =>
          J856 [t12, t13] w1174)) ∧
             (
              allocW 28 [(.int .i64 0), (.bool false), (.string (ofL [])), (.slice none 0 0), (.slice none 0 0)] w1152 fun t12 w1175 =>
              (ldW true 5 t11 w1175 fun x => x = t135) ∧
              (ldW true 5 t7 w1175 fun x => x = t134) ∧
              callV Tryz.prog (.func (.func 16) #[] #[]) [(.string (ofL [115, 117, 98, 115, 116, 114])), t131] w1175 fun t132 w1176 =>
              (ldW true 5 t11 w1176 fun x => x = t135) ∧
              (ldW true 5 t7 w1176 fun x => x = t134) ∧
              callF Tryz.prog 18 [(.int .i64 400)] w1176 fun t136 w1177 =>
              (ldW true 5 t11 w1177 fun x => x = t135) ∧
              (ldW true 5 t7 w1177 fun x => x = t134) ∧
              bslW 28 3 [(.int .i64 0), (.bool false), (.string (ofL [])), (.slice none 0 0), (.slice none 0 0), (.int .i64 0), (.bool false), (.string (ofL [])), (.slice none 0 0), (.slice none 0 0), (.int .i64 0), (.bool false), (.string (ofL [])), (.slice none 0 0), (.slice none 0 0)] [(0, 5, t134), (5, 5, t135), (10, 5, t136)] w1177 fun t137 w1178 =>
              callV Tryz.prog (.func (.func 16) #[] #[]) [(.string (ofL [115, 117, 98, 115, 116, 114])), t137] w1178 fun t138 w1179 =>
              stW 5 t12 t132 w1179 fun w1180 =>
              stW 5 t13 t138 w1180 fun w1181 =>
          J856 [t12, t13] w1181)) ∧
            (
             allocW 28 [(.int .i64 0), (.bool false), (.string (ofL [])), (.slice none 0 0), (.slice none 0 0)] w1151 fun t12 w1182 =>
             (ldW true 5 t11 w1182 fun x => x = t135) ∧
             (ldW true 5 t7 w1182 fun x => x = t134) ∧
             (ldW true 5 t11 w1182 fun x => x = t130) ∧
             (ldW true 5 t7 w1182 fun x => x = t128) ∧
             bslW 28 3 [(.int .i64 0), (.bool false), (.string (ofL [])), (.slice none 0 0), (.slice none 0 0), (.int .i64 0), (.bool false), (.string (ofL [])), (.slice none 0 0), (.slice none 0 0), (.int .i64 0), (.bool false), (.string (ofL [])), (.slice none 0 0), (.slice none 0 0)] [(0, 5, t128), (5, 5, t129), (10, 5, t130)] w1182 fun t131 w1183 =>
             (ldW true 5 t11 w1183 fun x => x = t135) ∧
             (ldW true 5 t7 w1183 fun x => x = t134) ∧
             callV Tryz.prog (.func (.func 16) #[] #[]) [(.string (ofL [115, 117, 98, 115, 116, 114])), t131] w1183 fun t132 w1184 =>
             (ldW true 5 t11 w1184 fun x => x = t135) ∧
             (ldW true 5 t7 w1184 fun x => x = t134) ∧
             callF Tryz.prog 18 [(.int .i64 400)] w1184 fun t136 w1185 =>
             (ldW true 5 t11 w1185 fun x => x = t135) ∧
             (ldW true 5 t7 w1185 fun x => x = t134) ∧
             bslW 28 3 [(.int .i64 0), (.bool false), (.string (ofL [])), (.slice none 0 0), (.slice none 0 0), (.int .i64 0), (.bool false), (.string (ofL [])), (.slice none 0 0), (.slice none 0 0), (.int .i64 0), (.bool false), (.string (ofL [])), (.slice none 0 0), (.slice none 0 0)] [(0, 5, t134), (5, 5, t135), (10, 5, t136)] w1185 fun t137 w1186 =>
             callV Tryz.prog (.func (.func 16) #[] #[]) [(.string (ofL [115, 117, 98, 115, 116, 114])), t137] w1186 fun t138 w1187 =>
             stW 5 t12 t132 w1187 fun w1188 =>
             stW 5 t13 t138 w1188 fun w1189 =>
          J856 [t12, t13] w1189)) ∧
           (
            allocW 28 [(.int .i64 0), (.bool false), (.string (ofL [])), (.slice none 0 0), (.slice none 0 0)] w1150 fun t12 w1190 =>
            (ldW true 5 t11 w1190 fun x => x = t135) ∧
            (ldW true 5 t7 w1190 fun x => x = t134) ∧
            (ldW true 5 t11 w1190 fun x => x = t130) ∧
            (ldW true 5 t7 w1190 fun x => x = t128) ∧
            callF Tryz.prog 18 [(.int .i64 0)] w1190 fun t129 w1191 =>
            (ldW true 5 t11 w1191 fun x => x = t135) ∧
            (ldW true 5 t7 w1191 fun x => x = t134) ∧
            (ldW true 5 t11 w1191 fun x => x = t130) ∧
            (ldW true 5 t7 w1191 fun x => x = t128) ∧
            bslW 28 3 [(.int .i64 0), (.bool false), (.string (ofL [])), (.slice none 0 0), (.slice none 0 0), (.int .i64 0), (.bool false), (.string (ofL [])), (.slice none 0 0), (.slice none 0 0), (.int .i64 0), (.bool false), (.string (ofL [])), (.slice none 0 0), (.slice none 0 0)] [(0, 5, t128), (5, 5, t129), (10, 5, t130)] w1191 fun t131 w1192 =>
            (ldW true 5 t11 w1192 fun x => x = t135) ∧
            (ldW true 5 t7 w1192 fun x => x = t134) ∧
            callV Tryz.prog (.func (.func 16) #[] #[]) [(.string (ofL [115, 117, 98, 115, 116, 114])), t131] w1192 fun t132 w1193 =>
            (ldW true 5 t11 w1193 fun x => x = t135) ∧
            (ldW true 5 t7 w1193 fun x => x = t134) ∧
            callF Tryz.prog 18 [(.int .i64 400)] w1193 fun t136 w1194 =>
            (ldW true 5 t11 w1194 fun x => x = t135) ∧
            (ldW true 5 t7 w1194 fun x => x = t134) ∧
            bslW 28 3 [(.int .i64 0), (.bool false), (.string (ofL [])), (.slice none 0 0), (.slice none 0 0), (.int .i64 0), (.bool false), (.string (ofL [])), (.slice none 0 0), (.slice none 0 0), (.int .i64 0), (.bool false), (.string (ofL [])), (.slice none 0 0), (.slice none 0 0)] [(0, 5, t134), (5, 5, t135), (10, 5, t136)] w1194 fun t137 w1195 =>
            callV Tryz.prog (.func (.func 16) #[] #[]) [(.string (ofL [115, 117, 98, 115, 116, 114])), t137] w1195 fun t138 w1196 =>
            stW 5 t12 t132 w1196 fun w1197 =>
            stW 5 t13 t138 w1197 fun w1198 =>
          J856 [t12, t13] w1198)))
        fun s856 _ w1199 =>
        fldW 2 (s856.getD 0 undef) fun t139 =>
        ldW false 1 t139 w1199.drew fun t140 =>
        fldW 2 (s856.getD 1 undef) fun t141 =>
        ldW false 1 t141 w1199.drew fun t142 =>
        binW .add t140 t142 fun t143 =>
        binW .eql t143 (s2.getD 0 undef) fun t145 =>
        GqW (isB t145 true) (fun k1200 => k1200 (.func (.func 16) #[] #[])) fun t147 =>
        GqW (isB t145 true) (fun k1201 => ldW true 5 t11 w1199.drew k1201) fun t148 =>
        GqW (isB t145 true) (fun k1202 => k1202 v2) fun t149 =>
        GqW (isB t145 true) (fun k1203 => k1203 (.func (.func 16) #[] #[])) fun t154 =>
        GqW (isB t145 true) (fun k1204 => k1204 v2) fun t155 =>
        GqW (isB t145 true) (fun k1205 => ldW true 5 t11 w1199.drew k1205) fun t157 =>
        GeW (isB t145 true) w1199.drew (fun k1206 => callF Tryz.prog 18 [t149] w1199.drew k1206) fun t150 w1207 =>
        ((isB t145 true) = true → ldW true 5 t11 w1207 fun x => x = t157) ∧
        ((isB t145 true) = true → ldW true 5 t11 w1207 fun x => x = t148) ∧
        GeW (isB t145 true) w1207 (fun k1208 => bslW 28 2 [(.int .i64 0), (.bool false), (.string (ofL [])), (.slice none 0 0), (.slice none 0 0), (.int .i64 0), (.bool false), (.string (ofL [])), (.slice none 0 0), (.slice none 0 0)] [(0, 5, t148), (5, 5, t150)] w1207 k1208) fun t151 w1209 =>
        ((isB t145 true) = true → ldW true 5 t11 w1209 fun x => x = t157) ∧
        GeW (isB t145 true) w1209 (fun k1210 => callV Tryz.prog t147 [(.string (ofL [109, 97, 120])), t151] w1209 k1210) fun t152 w1211 =>
        ((isB t145 true) = true → ldW true 5 t11 w1211 fun x => x = t157) ∧
        GqW (isB t145 true) (fun k1212 => partW false 2 1 t152 k1212) fun t153 =>
        GeW (isB t145 true) w1211 (fun k1213 => callF Tryz.prog 18 [t155] w1211 k1213) fun t156 w1214 =>
        ((isB t145 true) = true → ldW true 5 t11 w1214 fun x => x = t157) ∧
        GeW (isB t145 true) w1214 (fun k1215 => bslW 28 2 [(.int .i64 0), (.bool false), (.string (ofL [])), (.slice none 0 0), (.slice none 0 0), (.int .i64 0), (.bool false), (.string (ofL [])), (.slice none 0 0), (.slice none 0 0)] [(0, 5, t156), (5, 5, t157)] w1214 k1215) fun t158 w1216 =>
        GeW (isB t145 true) w1216 (fun k1217 => callV Tryz.prog t154 [(.string (ofL [109, 97, 120])), t158] w1216 k1217) fun t159 w1218 =>
        GqW (isB t145 true) (fun k1219 => partW false 2 1 t159 k1219) fun t160 =>
        GqW (isB t145 true) (fun k1220 => binW .eql t153 t160 k1220) fun t161 =>
        pickW t145 t161 (.bool false) fun t162 =>
        GqW (isB t162 true) (fun k1221 => k1221 (.func (.func 16) #[] #[])) fun t164 =>
        GqW (isB t162 true) (fun k1222 => k1222 (.func (.func 16) #[] #[])) fun t165 =>
        GqW (isB t162 true) (fun k1223 => k1223 v2) fun t166 =>
        GqW (isB t162 true) (fun k1224 => k1224 v2) fun t173 =>
        GeW (isB t162 true) w1218 (fun k1225 => callF Tryz.prog 18 [t166] w1218 k1225) fun t167 w1226 =>
        GeW (isB t162 true) w1226 (fun k1227 => bslW 28 1 [(.int .i64 0), (.bool false), (.string (ofL [])), (.slice none 0 0), (.slice none 0 0)] [(0, 5, t167)] w1226 k1227) fun t168 w1228 =>
        GeW (isB t162 true) w1228 (fun k1229 => callV Tryz.prog t165 [(.string (ofL [116, 111, 115, 116, 114, 105, 110, 103])), t168] w1228 k1229) fun t169 w1230 =>
        GeW (isB t162 true) w1230 (fun k1231 => bslW 28 1 [(.int .i64 0), (.bool false), (.string (ofL [])), (.slice none 0 0), (.slice none 0 0)] [(0, 5, t169)] w1230 k1231) fun t170 w1232 =>
        GeW (isB t162 true) w1232 (fun k1233 => callV Tryz.prog t164 [(.string (ofL [116, 111, 105, 110, 116])), t170] w1232 k1233) fun t171 w1234 =>
        GqW (isB t162 true) (fun k1235 => partW false 2 1 t171 k1235) fun t172 =>
        GeW (isB t162 true) w1234 (fun k1236 => callF Tryz.prog 19 [t173] w1234 k1236) fun t174 w1237 =>
        GqW (isB t162 true) (fun k1238 => binW .eql t172 t174 k1238) fun t175 =>
        pickW t162 t175 (.bool false) fun t176 =>
        K t176 w1237)))
theorem W5_eq (v0 v1 v2 : Value) (w : World) (K : Value → World → Prop) : funW Tryz.prog Tryz.f5 plan5 [v0, v1, v2] w K = W5 v0 v1 v2 w K := by kernel_rfl
theorem W5_chk : chkFun Tryz.prog Tryz.f5 plan5 3 = true := by kernel_rfl
theorem W5_ok {v0 v1 v2 : Value} {w : World} {K : Value → World → Prop} (h : W5 v0 v1 v2 w K) : callF Tryz.prog 5 [v0, v1, v2] w K :=
  tie Tryz.prog 5 Tryz.f5 plan5 [v0, v1, v2] w K 3 (W5 v0 v1 v2 w K) rfl mixed Tryz.func5 W5_chk (W5_eq v0 v1 v2 w K) Tryz.call5 h
end Go.Proofs.YtdkikjcpgihjlaaGreatDoor
namespace Go.Proofs.YtdkikjcpgihjlaaGreatDoor
open Go Go.Eng Go.Num Go.RowKit
set_option maxRecDepth 100000
def FL (v : JV) (cs : List Value) : Prop := ∀ w, VRep w v cs
section
variable [HX]
theorem FL.len {v : JV} {cs : List Value} (h : FL v cs) : cs.length = 5 := (h (default : World)).len
theorem sl_any {w w' : World} {T : TypeId} {v : Value} {n : Nat} (h : SlAt w T v n []) : SlAt w' T v n [] := by
  obtain ⟨p, cap, h1, h2, h3, _⟩ := h
  exact ⟨p, cap, h1, h2, h3, fun e => absurd rfl e⟩
theorem fl_of {w : World} {v : JV} {cs : List Value} (h : VRep w v cs) (hx : v.xs = []) (hk : v.ks = []) : FL v cs := by
  intro w'
  obtain ⟨sv, kv, T1, T2, L, rfl, h1, h2, h3, h4⟩ := h.out
  have e2 : L = [] := by rw [hx] at h2; simpa only [VReps] using h2
  subst e2
  rw [hk, List.map_nil] at h3
  refine VRep.mk (T1 := T1) (T2 := T2) (L := []) (sl_any h1) (by rw [hx]; simp only [VReps]) ?_ h4
  rw [hk, List.map_nil]
  exact sl_any h3
theorem fl_flat {k : Int} {b : Bool} {t : Str} (ht : t.length ≤ 9223372036854775807) : FL (.mk k b t [] []) (flat k b t) := fun _ => (flat_rep (G := fun _ => True) ht).rep
structure Ctx (w0 w : World) (B : List Nat) (L : List (Value × List JV)) : Prop where
  ext : Ext w0 w
  blk : ∀ b ∈ B, w.heap[b]? = some (.cells zr5.toArray VT (0, 0)) ∧ w0.heap.size ≤ b
  row : ∀ p ∈ L, ItemsAt w p.1 p.2
  nod : B.Nodup
theorem Ctx.step {w0 w w' : World} {B : List Nat} {L : List (Value × List JV)} (h : Ctx w0 w B L) (hx : Ext w w') : Ctx w0 w' B L :=
  ⟨h.ext.trans hx, fun b hb => ⟨hx.at (h.blk b hb).1 id, (h.blk b hb).2⟩, fun p hp => (h.row p hp).ext hx, h.nod⟩
theorem Ctx.push {w0 w : World} {B : List Nat} {L : List (Value × List JV)} {t : Value} {a : List JV} (h : Ctx w0 w B L) (hI : ItemsAt w t a) : Ctx w0 w B ((t, a) :: L) :=
  ⟨h.ext, h.blk, fun p hp => by rcases List.mem_cons.1 hp with rfl | hp; exact hI; exact h.row p hp, h.nod⟩
theorem c_row1 {w0 w : World} {B : List Nat} {L : List (Value × List JV)} {u : JV} {cs : List Value} {K : Value → World → Prop} (h : Ctx w0 w B L) (h1 : FL u cs) (hK : ∀ t w', Ctx w0 w' B ((t, [u]) :: L) → K t w') : bslW VT 1 zr5 [(0, 5, .agg cs.toArray)] w K :=
  frow_v1 (h1 w) fun t w' hI hx => hK t w' ((h.step hx).push hI)
theorem c_row2 {w0 w : World} {B : List Nat} {L : List (Value × List JV)} {u v : JV} {cs ds : List Value} {K : Value → World → Prop} (h : Ctx w0 w B L) (h1 : FL u cs) (h2 : FL v ds) (hK : ∀ t w', Ctx w0 w' B ((t, [u, v]) :: L) → K t w') : bslW VT 2 [(.int .i64 0), (.bool false), (.string (ofL [])), (.slice none 0 0), (.slice none 0 0), (.int .i64 0), (.bool false), (.string (ofL [])), (.slice none 0 0), (.slice none 0 0)] [(0, 5, .agg cs.toArray), (5, 5, .agg ds.toArray)] w K :=
  frow_v2 (h1 w) (h2 w) fun t w' hI hx _ _ => hK t w' ((h.step hx).push hI)
theorem c_row3 {w0 w : World} {B : List Nat} {L : List (Value × List JV)} {u v z : JV} {cs ds es : List Value} {K : Value → World → Prop} (h : Ctx w0 w B L) (h1 : FL u cs) (h2 : FL v ds) (h3 : FL z es) (hK : ∀ t w', Ctx w0 w' B ((t, [u, v, z]) :: L) → K t w') : bslW VT 3 [(.int .i64 0), (.bool false), (.string (ofL [])), (.slice none 0 0), (.slice none 0 0), (.int .i64 0), (.bool false), (.string (ofL [])), (.slice none 0 0), (.slice none 0 0), (.int .i64 0), (.bool false), (.string (ofL [])), (.slice none 0 0), (.slice none 0 0)] [(0, 5, .agg cs.toArray), (5, 5, .agg ds.toArray), (10, 5, .agg es.toArray)] w K :=
  frow_v3 (h1 w) (h2 w) (h3 w) fun t w' hI hx _ => hK t w' ((h.step hx).push hI)
theorem c_ld {w0 w : World} {B : List Nat} {L : List (Value × List JV)} {a : Nat} {cs : List Value} {T : TypeId} {fr : Nat × Nat} (h : Ctx w0 w B L) (hb : w0.heap[a]? = some (.cells cs.toArray T fr)) (hl : cs.length = 5) : ldW true 5 (.pointer (some ⟨a, 0, none⟩)) w (fun x => x = .agg cs.toArray) :=
  ld_all (h.ext.at hb id) hl rfl
theorem c_ldk {w0 w : World} {B : List Nat} {L : List (Value × List JV)} {a : Nat} {cs : List Value} {T : TypeId} {fr : Nat × Nat} {K : Value → Prop} (h : Ctx w0 w B L) (hb : w0.heap[a]? = some (.cells cs.toArray T fr)) (hl : cs.length = 5) (hK : K (.agg cs.toArray)) : ldW true 5 (.pointer (some ⟨a, 0, none⟩)) w K :=
  ld_all (h.ext.at hb id) hl hK
theorem c_alloc {w0 w : World} {B : List Nat} {L : List (Value × List JV)} {K : Value → World → Prop} (h : Ctx w0 w B L) (hK : ∀ b w', Ctx w0 w' (b :: B) L → K (.pointer (some ⟨b, 0, none⟩)) w') : allocW VT zr5 w K := by
  refine alloc_new fun b w1 hb hz hbb hx => hK b w1 ?_
  have h' := h.step hx
  have := h.ext.size
  refine ⟨h'.ext, fun c hc => ?_, h'.row, ?_⟩
  · rcases List.mem_cons.1 hc with rfl | hc
    · exact ⟨hbb, by omega⟩
    · exact h'.blk c hc
  · refine List.nodup_cons.2 ⟨fun hm => ?_, h.nod⟩
    have := at_lt (h.blk b hm).1
    omega
end
def Fin (w0 : World) (st : List Value) (w : World) : Prop := st = [.bool false] ∧ Ext w0 w
theorem Fin.out {w0 w : World} {st : List Value} (h : Fin w0 st w) : st = [.bool false] ∧ Ext w0 w := h
theorem fin_go {w0 w : World} {B : List Nat} {L : List (Value × List JV)} {b : Bool} (h : Ctx w0 w B L) (e : b = false) : Fin w0 [.bool b] w := by subst e; exact ⟨rfl, h.ext⟩
theorem gq_go {c : Bool} {A : (Value → Prop) → Prop} {B : Value → Prop} {v : Value} (hc : c = true) (hA : A (fun x => x = v)) (hB : B v) : GqW c A B := by
  subst hc; exact (GqW_t A B).2 ⟨v, hA, hB⟩
theorem ge_go {c : Bool} {w : World} {A : (Value → World → Prop) → Prop} {B : Value → World → Prop} (hc : c = true) (hA : A B) : GeW c w A B := by
  subst hc; exact ⟨fun _ => hA, fun e => Bool.noConfusion e⟩
theorem pk_f {b : Bool} {x y : Value} {K : Value → Prop} (hb : b = false) (hK : K y) : pickW (.bool b) x y K := by subst hb; exact hK
theorem un_go {b : Bool} {K : Value → Prop} (hK : K (.bool (!b))) : unW .not (.bool b) K := hK
theorem pk_t {b : Bool} {x y : Value} {K : Value → Prop} (hb : b = true) (hK : K x) : pickW (.bool b) x y K := by subst hb; exact hK
theorem eq_str {s t : Str} {K : Value → Prop} (e : s = t) (hK : K (.bool true)) : binW .eql (str s) (str t) K := by
  subst e
  rw [bin_seq]
  simpa using hK
theorem part2 {x0 x1 x2 x3 x4 : Value} : partW false 2 1 (.agg [x0, x1, x2, x3, x4].toArray) (fun x => x = x2) := ⟨x2, rfl, rfl⟩
theorem gq_no {c : Bool} {A : (Value → Prop) → Prop} {B : Value → Prop} (hc : c = false) (hB : B undef) : GqW c A B := by
  subst hc; exact (GqW_f A B).2 hB
theorem ge_no {c : Bool} {w : World} {A : (Value → World → Prop) → Prop} {B : Value → World → Prop} (hc : c = false) (hB : B undef w) : GeW c w A B := by
  subst hc; exact ⟨fun e => Bool.noConfusion e, fun _ => hB⟩
theorem ls_go {s : Str} {K : Value → Prop} (hK : K (.int .i64 s.length)) : lensW (str s) K := (lens_str K s).2 hK
theorem mn_go {k : IntKind} {a b : Int} {K : Value → Prop} (hK : K (.int k (if b < a then b else a))) : minW (.int k a) (.int k b) K := hK
theorem sl_take {s : Str} (m : Nat) {K : Value → Prop} (hK : K (str (s.take m))) : slsW (str s) none (some (.int .i64 (if (m : Int) < (s.length : Int) then (m : Int) else (s.length : Int)))) K := by
  rw [sls_str, bd_some]
  refine ⟨by split <;> omega, by split <;> omega, ?_⟩
  rw [bd_none, List.drop_zero]
  by_cases h : (m : Int) < (s.length : Int)
  · rw [if_pos h, Int.toNat_natCast]; exact hK
  · rw [if_neg h, Int.toNat_natCast, List.take_length]
    rw [List.take_of_length_le (by omega)] at hK
    exact hK
theorem sl300 {s : Str} {K : Value → Prop} (hK : K (str (s.take 300))) : slsW (str s) none (some (.int .i64 (if 300 < (s.length : Int) then 300 else (s.length : Int)))) K := sl_take 300 hK
theorem sl10 {s : Str} {K : Value → Prop} (hK : K (str (s.take 10))) : slsW (str s) none (some (.int .i64 (if 10 < (s.length : Int) then 10 else (s.length : Int)))) K := sl_take 10 hK
theorem valb_of {w : World} {a : Nat} {v : JV} {cs : List Value} (hb : w.heap[a]? = some (.cells cs.toArray VT (0, 0))) (h : VRep w v cs) : ∃ sv kv, ValB w a v sv kv := by
  obtain ⟨sv, kv, T1, T2, L, rfl, h1, h2, h3, h4⟩ := h.out
  exact ⟨sv, kv, hb, ⟨T1, L, h1, h2⟩, ⟨T2, h3⟩, h4⟩
theorem ne_str {s t : Str} {K : Value → Prop} (e : s = t) (hK : K (.bool false)) : binW .neq (str s) (str t) K := by
  subst e
  rw [bin_sne]
  simpa using hK
section
variable [HX]
theorem c_call {w0 w : World} {B : List Nat} {L : List (Value × List JV)} {name : Str} {a : List JV} {r : JV} {sv : Value} {K : Value → World → Prop} (hT : TabF w0) (h : Ctx w0 w B L) (hm : (sv, a) ∈ L) (hl : a.length ≤ 60) (hp : pairsL a = []) (hc : callM name a = (r, 0)) (hx : r.xs = []) (hk : r.ks = [])
    (hK : ∀ sv kv w', Ctx w0 w' B L → FL r [i64 r.k, .bool r.b, str r.t, sv, kv] → K (.agg [i64 r.k, .bool r.b, str r.t, sv, kv].toArray) w') : callV Tryz.prog (.func (.func 16) #[] #[]) [str name, sv] w K := by
  refine call1_p (hT.ext h.ext) (h.row _ hm) hl (fun _ => by rw [hp]; simp) hc fun cs w' hx' hv => ?_
  have hf := fl_of hv.rep hx hk
  obtain ⟨sv, kv, _, _, _, rfl, _⟩ := hv.rep.out
  exact hK sv kv w' (h.step hx') hf
theorem c_same {w0 w : World} {B : List Nat} {L : List (Value × List JV)} {u v : JV} {cs ds : List Value} {K : Value → World → Prop} (h : Ctx w0 w B L) (h1 : FL u cs) (h2 : FL v ds) (e : u = v) (hK : ∀ w', Ctx w0 w' B L → K (.bool true) w') : callF Tryz.prog 13 [.agg cs.toArray, .agg ds.toArray] w K := by
  refine same_ref u (h1 w) (h2 w) fun w' hx => ?_
  rw [e, (same_iff v v).2 rfl]
  exact hK w' (h.step hx)
theorem c_int {w0 w : World} {B : List Nat} {L : List (Value × List JV)} {n : Int} {K : Value → World → Prop} (h : Ctx w0 w B L) (h1 : -9223372036854775808 ≤ n) (h2 : n ≤ 9223372036854775807) (hK : ∀ w', Ctx w0 w' B L → FL (iV n) (flat 3 false (Lib.itoa n)) → K (.agg (flat 3 false (Lib.itoa n)).toArray) w') : callF Tryz.prog 18 [i64 n] w K :=
  int_ref7 h1 h2 fun w' hx => hK w' (h.step hx) (fl_flat (by have := itoa_len2 h1 h2; omega))
theorem c_text {w0 w : World} {B : List Nat} {L : List (Value × List JV)} {s : Str} {K : Value → World → Prop} (h : Ctx w0 w B L) (hs : s.length ≤ 9223372036854775807) (hK : ∀ w', Ctx w0 w' B L → FL (tV s) (flat 4 false s) → K (.agg (flat 4 false s).toArray) w') : callF Tryz.prog 15 [str s] w K :=
  text_ref2 fun w' hx => hK w' (h.step hx) (fl_flat hs)
theorem c_dig {w0 w : World} {B : List Nat} {L : List (Value × List JV)} {n : Int} {K : Value → World → Prop} (h : Ctx w0 w B L) (h1 : -9223372036854775808 ≤ n) (h2 : n ≤ 9223372036854775807) (hK : ∀ w', Ctx w0 w' B L → K (str (Lib.itoa n)) w') : callF Tryz.prog 19 [i64 n] w K :=
  digits_ref7 h1 h2 fun w' hx => hK w' (h.step hx)
theorem c_callv {w0 w : World} {B : List Nat} {L : List (Value × List JV)} {name : Str} {a : List JV} {r : JV} {sv : Value} {K : Value → World → Prop} (hT : TabF w0) (h : Ctx w0 w B L) (hm : (sv, a) ∈ L) (hl : a.length ≤ 60) (hp : pairsL a = []) (hc : callM name a = (r, 0))
    (hK : ∀ cs w', Ctx w0 w' B L → VRep w' r cs → (∀ b ∈ B, ∀ w'', Chg (fun k => k = b) w' w'' → VRep w'' r cs) → K (.agg cs.toArray) w') : callV Tryz.prog (.func (.func 16) #[] #[]) [str name, sv] w K := by
  refine call1_p (hT.ext h.ext) (h.row _ hm) hl (fun _ => by rw [hp]; simp) hc fun cs w' hx' hv => ?_
  refine hK cs w' (h.step hx') hv.rep fun b hb w'' hc => ?_
  have hlt := at_lt (h.blk b hb).1
  exact (VRepP.chg hc (fun q hq _ e => by have hq : w.heap.size ≤ q := hq; omega) hv).rep
theorem c_fin1 {w0 w : World} {B : List Nat} {L : List (Value × List JV)} {a : Nat} {cs : List Value} {v : JV} {K : World → Prop} (h : Ctx w0 w B L) (ha : a ∈ B) (h0 : VRep w v cs) (h1 : ∀ b ∈ B, ∀ w'', Chg (fun k => k = b) w w'' → VRep w'' v cs)
    (hK : ∀ w' sv kv, Ext w0 w' → ValB w' a v sv kv → K w') : stW 5 (.pointer (some ⟨a, 0, none⟩)) (.agg cs.toArray) w K := by
  obtain ⟨ha1, ha2⟩ := h.blk a ha
  refine st_agg_at ha1 h0.len rfl h0.all_one fun w1 hz1 hb' hc1 => ?_
  obtain ⟨sv, kv, hB⟩ := valb_of hb' (h1 a ha w1 hc1)
  exact hK w1 sv kv (h.ext.new hc1 ha2) hB
theorem c_fin2 {w0 w : World} {B : List Nat} {L : List (Value × List JV)} {a b : Nat} {cs ds : List Value} {u v : JV} {K : World → Prop} (h : Ctx w0 w B L) (ha : a ∈ B) (hb : b ∈ B) (hab : a ≠ b) (h1 : FL u cs) (h2 : FL v ds)
    (hK : ∀ w', Ext w0 w' → w'.heap[a]? = some (.cells cs.toArray VT (0, 0)) → w'.heap[b]? = some (.cells ds.toArray VT (0, 0)) → K w') :
    stW 5 (.pointer (some ⟨a, 0, none⟩)) (.agg cs.toArray) w fun w1 => stW 5 (.pointer (some ⟨b, 0, none⟩)) (.agg ds.toArray) w1 fun w2 => K w2 := by
  obtain ⟨ha1, ha2⟩ := h.blk a ha
  obtain ⟨hb1, hb2⟩ := h.blk b hb
  refine st_agg_at ha1 h1.len rfl (h1 w).all_one fun w1 hz1 hb' hc1 => ?_
  have hb1' : w1.heap[b]? = some (.cells zr5.toArray VT (0, 0)) := hc1.at hb1 fun e => hab e.symm
  refine st_agg_at hb1' h2.len rfl (h2 w).all_one fun w2 hz2 hb'' hc2 => ?_
  exact hK w2 ((h.ext.new hc1 ha2).new hc2 hb2) (hc2.at hb' fun e => hab e) hb''
def Fin2 (w0 : World) (x y : Str) (st : List Value) (w : World) : Prop := ∃ a b sv kv sv' kv', st = [.pointer (some ⟨a, 0, none⟩), .pointer (some ⟨b, 0, none⟩)] ∧ Ext w0 w ∧
  w.heap[a]? = some (.cells [i64 4, .bool false, str x, sv, kv].toArray VT (0, 0)) ∧ w.heap[b]? = some (.cells [i64 4, .bool false, str y, sv', kv'].toArray VT (0, 0))
theorem Fin2.out {w0 w : World} {x y : Str} {st : List Value} (h : Fin2 w0 x y st w) : ∃ a b sv kv sv' kv', st = [.pointer (some ⟨a, 0, none⟩), .pointer (some ⟨b, 0, none⟩)] ∧ Ext w0 w ∧
  w.heap[a]? = some (.cells [i64 4, .bool false, str x, sv, kv].toArray VT (0, 0)) ∧ w.heap[b]? = some (.cells [i64 4, .bool false, str y, sv', kv'].toArray VT (0, 0)) := h
theorem fin2_go {w0 w : World} {B : List Nat} {L : List (Value × List JV)} {a b : Nat} {x y : Str} {sv kv sv' kv' : Value} (h : Ctx w0 w B L) (ha : a ∈ B) (hb : b ∈ B) (hab : a ≠ b)
    (h1 : FL (tV x) [i64 (tV x).k, .bool (tV x).b, str (tV x).t, sv, kv]) (h2 : FL (tV y) [i64 (tV y).k, .bool (tV y).b, str (tV y).t, sv', kv']) :
    stW 5 (.pointer (some ⟨a, 0, none⟩)) (.agg [i64 (tV x).k, .bool (tV x).b, str (tV x).t, sv, kv].toArray) w fun w1 => stW 5 (.pointer (some ⟨b, 0, none⟩)) (.agg [i64 (tV y).k, .bool (tV y).b, str (tV y).t, sv', kv'].toArray) w1 fun w2 => Fin2 w0 x y [.pointer (some ⟨a, 0, none⟩), .pointer (some ⟨b, 0, none⟩)] w2 :=
  c_fin2 h ha hb hab h1 h2 fun w' hx ha' hb' => ⟨a, b, sv, kv, sv', kv', rfl, hx, ha', hb'⟩
theorem Ctx.ne2 {w0 w : World} {a b : Nat} {B : List Nat} {L : List (Value × List JV)} (h : Ctx w0 w (a :: b :: B) L) : a ≠ b ∧ b ≠ a := by
  have := (List.nodup_cons.1 h.nod).1
  have e : a ≠ b := fun e => this (by rw [e]; exact List.mem_cons_self)
  exact ⟨e, fun e' => e e'.symm⟩
theorem ctx0 (w : World) : Ctx w w [] [] := ⟨Chg.refl _ _, fun _ h => absurd h List.not_mem_nil, fun _ h => absurd h List.not_mem_nil, List.nodup_nil⟩
end
end Go.Proofs.YtdkikjcpgihjlaaGreatDoor
namespace Go.Proofs.YtdkikjcpgihjlaaGreatDoor
open Go Go.Eng Go.Num Go.RowKit
set_option maxRecDepth 100000
set_option maxHeartbeats 4000000
theorem rev_facts {s : Str} (hs : s.length ≤ 300) : (runesM s).reverse.flatten.length ≤ 16384 := by rw [flat_rev, runes_flat]; omega
theorem rev_len {s : Str} (hu : utfM s = true) : iV ((runesM (runesM s).reverse.flatten).length : Int) = iV ((runesM s).length : Int) := by
  rw [rev_rev (utf_ok7 s _ _ hu), List.length_reverse]
theorem rev_back {s : Str} (hu : utfM s = true) : (runesM (runesM s).reverse.flatten).reverse.flatten = s := by
  rw [rev_rev (utf_ok7 s _ _ hu), List.reverse_reverse, runes_flat]
theorem pairs_1 {x : JV} (h : x.ks = []) : pairsL [x] = [] := by simp [pairsL, h]
theorem pairs_2 {x y : JV} (h : x.ks = []) (h' : y.ks = []) : pairsL [x, y] = [] := by simp [pairsL, h, h']
section
variable [HX]
theorem frules_true {s b : Str} {n : Int} {w : World} {K : Value → World → Prop} (hT : TabF w) (hs : s.length ≤ 9223372036854775807) (hb : b.length ≤ 9223372036854775807) (hn1 : -9223372036854775808 ≤ n) (hn2 : n ≤ 9223372036854775807) (hK : ∀ w', Ext w w' → K (.bool true) w') :
    callF Tryz.prog 5 [str s, str b, i64 n] w K := by
  refine W5_ok ?_
  unfold W5
  refine fawake hT fun w1 hx1 => ?_
  rw [un_not, Bool.not_true, condW_false]
  refine JoinW.cut (fun st w' => st = [str (s.take 300), str (b.take 10)] ∧ w' = w1.drew) ?_ ?_
  · repeat (first
      | exact ⟨rfl, rfl⟩
      | refine ls_go ?_
      | refine mn_go ?_
      | refine sl300 ?_
      | refine sl10 ?_
      | refine ⟨?_, ?_⟩)
  rintro st g w3 ⟨rfl, rfl⟩
  simp only [List.getD_cons_zero, List.getD_cons_succ]
  have hs1 : (s.take 300).length ≤ 300 := by rw [List.length_take]; omega
  have hb1 : (b.take 10).length ≤ 10 := by rw [List.length_take]; omega
  generalize s.take 300 = s1 at *
  generalize b.take 10 = b1 at *
  have hsL : s1.length ≤ 16384 := by omega
  have hrL := rev_facts hs1
  have hx3 : Ext w w1.drew := Chg.drew hx1
  refine text_ref2 fun w4 hx4 => ?_
  refine alloc_new fun a7 w5 ha7 hz5 hb7 hx5 => ?_
  refine st_agg_at hb7 rfl rfl rfl fun w6 hz6 hb7' hc6 => ?_
  have hx46 : Ext w4 w6 := hx5.new hc6 (by omega)
  refine ld_all hb7' rfl ?_
  have hf7 : FL (tV s1) (flat 4 false s1) := fl_flat (by omega)
  have hC6 : Ctx w6 w6 [] [] := ctx0 w6
  have hT6 : TabF w6 := hT.ext (hx3.trans (hx4.trans hx46))
  refine c_row1 hC6 hf7 fun t30 w7 hC7 => ?_
  refine c_call hT6 hC7 (by simp) (by simp) rfl (cm_rev hsL) rfl rfl fun sv9 kv9 w8 hC8 hf9 => ?_
  refine alloc_new fun a9 w9 ha9 hz9 hb9 hx9 => ?_
  refine st_agg_at hb9 rfl rfl (hf9 w9).all_one fun w10 hz10 hb9' hc10 => ?_
  have hx810 : Ext w8 w10 := hx9.new hc10 (by omega)
  have hx610 : Ext w6 w10 := hC8.ext.trans hx810
  have hx10 : Ext w w10 := hx3.trans (hx4.trans (hx46.trans hx610))
  have hB7 := hx610.at hb7' id
  have hT10 : TabF w10 := hT.ext hx10
  clear hC6 hC7 hC8 hT6
  have hC0 : Ctx w10 w10.drew [] [] := (ctx0 w10).step (Chg.drew (Chg.refl _ _))
  refine JoinW.cut (Fin w10) ?_ ?_
  · refine bad_ref7 (by omega) fun r hr => ?_
    rw [bin_lss]
    by_cases hu : utfM s1 = true
    · have h0 : decide (r < 0) = true := by
        rw [hu] at hr
        have : ¬ 0 ≤ r := by simpa using hr
        exact decide_eq_true (by omega)
      rw [h0]
      have e1 := rev_len hu
      have e2 := rev_back hu
      repeat (first
        | ((with_reducible refine fin_go (by assumption) ?_); rfl)
        | ((with_reducible refine ge_go ?_ ?_); · rfl)
        | ((with_reducible apply gq_go); rfl; first | (with_reducible exact c_ld (by assumption) (by assumption) rfl) | (with_reducible exact part2) | ((with_reducible apply ne_str); exact e2; exact rfl) | ((with_reducible apply eq_str); (first | exact rfl | assumption); exact rfl) | (with_reducible exact rfl) | ((with_reducible apply un_go); exact rfl) | ((with_reducible apply pk_f); exact rfl; exact rfl) | ((with_reducible apply pk_t); exact rfl; exact rfl))
        | ((with_reducible refine c_row1 (by assumption) (by assumption) ?_); intro t w' hC')
        | ((with_reducible refine c_call (by assumption) (by assumption) (by first | exact List.mem_cons_self | exact List.mem_cons_of_mem _ List.mem_cons_self | (repeat (first | exact List.mem_cons_self | apply List.mem_cons_of_mem))) (by simp) (by with_unfolding_all rfl) (by first | assumption | exact cm_upper (by first | assumption | (simp only [casedM, List.length_map]; omega)) | exact cm_lower (by first | assumption | (simp only [casedM, List.length_map]; omega)) | exact cm_length (by first | assumption | (simp only [casedM, List.length_map]; omega)) | exact cm_rev (by first | assumption | (simp only [casedM, List.length_map]; omega)) | exact cm_sub0 hs1 (by omega) | exact cm_sub400 hs1 (by omega) | exact cm_tostr hn1 hn2 | exact cm_toint hn1 hn2) (by with_unfolding_all rfl) (by with_unfolding_all rfl) ?_); intro sv kv w' hC' hF')
        | ((with_reducible refine c_same (by assumption) (by assumption) (by assumption) (by first | assumption | rfl) ?_); intro w' hC')
        | (with_reducible refine And.intro (c_ld (by assumption) (by assumption) rfl) ?_)
        | (with_reducible refine And.intro (fun _ => c_ld (by assumption) (by assumption) rfl) ?_)
        | with_reducible refine un_go ?_
        | ((with_reducible refine pk_f ?_ ?_); · rfl)
        | ((with_reducible refine pk_t ?_ ?_); · rfl)
        | (with_reducible refine c_ldk (by assumption) (by assumption) rfl ?_)
        | ((with_reducible refine c_row2 (by assumption) (by assumption) (by assumption) ?_); intro t w' hC')
        | ((with_reducible refine c_row3 (by assumption) (by assumption) (by assumption) (by assumption) ?_); intro t w' hC')
        | ((with_reducible refine c_int (by assumption) (by first | decide | omega) (by first | decide | omega) ?_); intro w' hC' hF')
        | ((with_reducible refine c_dig (by assumption) (by first | decide | omega) (by first | decide | omega) ?_); intro w' hC')
        | ((with_reducible refine c_alloc (by assumption) ?_); intro b w' hC')
        | with_reducible refine And.intro ?_ ?_)
    · have h0 : decide (r < 0) = false := by
        have hu' : utfM s1 = false := by simpa using hu
        rw [hu'] at hr
        have : 0 ≤ r := by simpa using hr
        exact decide_eq_false (by omega)
      rw [h0]
      repeat (first
        | ((with_reducible refine fin_go (by assumption) ?_); rfl)
        | exact fun e => Bool.noConfusion e
        | ((with_reducible refine gq_no ?_ ?_); · rfl)
        | ((with_reducible refine ge_no ?_ ?_); · rfl)
        | ((with_reducible refine pk_f ?_ ?_); · rfl)
        | with_reducible refine And.intro ?_ ?_)
  intro st g11 w81 hF
  obtain ⟨rfl, hx81⟩ := hF.out
  simp only [List.getD_cons_zero]
  rw [condW_false]
  have hC1 : Ctx w10 w81.drew [] [] := ((ctx0 w10).step hx81).step (Chg.drew (Chg.refl _ _))
  refine JoinW.cut (Fin w10) ?_ ?_
  · have e1 : iV ((runesM (casedM 97 65 s1)).length : Int) = iV ((runesM (casedM 65 97 s1)).length : Int) := by rw [case_len]
    have e2 : tV (casedM 97 65 (casedM 97 65 (casedM 65 97 s1))) = tV (casedM 97 65 (casedM 97 65 s1)) := by rw [case_up]
    repeat (first
      | ((with_reducible refine fin_go (by assumption) ?_); rfl)
      | ((with_reducible refine ge_go ?_ ?_); · rfl)
      | ((with_reducible apply gq_go); rfl; first | (with_reducible exact c_ld (by assumption) (by assumption) rfl) | (with_reducible exact part2) | ((with_reducible apply ne_str); exact e2; exact rfl) | ((with_reducible apply eq_str); (first | exact rfl | assumption); exact rfl) | (with_reducible exact rfl) | ((with_reducible apply un_go); exact rfl) | ((with_reducible apply pk_f); exact rfl; exact rfl) | ((with_reducible apply pk_t); exact rfl; exact rfl))
      | ((with_reducible refine c_row1 (by assumption) (by assumption) ?_); intro t w' hC')
      | ((with_reducible refine c_call (by assumption) (by assumption) (by first | exact List.mem_cons_self | exact List.mem_cons_of_mem _ List.mem_cons_self | (repeat (first | exact List.mem_cons_self | apply List.mem_cons_of_mem))) (by simp) (by with_unfolding_all rfl) (by first | assumption | exact cm_upper (by first | assumption | (simp only [casedM, List.length_map]; omega)) | exact cm_lower (by first | assumption | (simp only [casedM, List.length_map]; omega)) | exact cm_length (by first | assumption | (simp only [casedM, List.length_map]; omega)) | exact cm_rev (by first | assumption | (simp only [casedM, List.length_map]; omega)) | exact cm_sub0 hs1 (by omega) | exact cm_sub400 hs1 (by omega) | exact cm_tostr hn1 hn2 | exact cm_toint hn1 hn2) (by with_unfolding_all rfl) (by with_unfolding_all rfl) ?_); intro sv kv w' hC' hF')
      | ((with_reducible refine c_same (by assumption) (by assumption) (by assumption) (by first | assumption | rfl) ?_); intro w' hC')
      | (with_reducible refine And.intro (c_ld (by assumption) (by assumption) rfl) ?_)
      | (with_reducible refine And.intro (fun _ => c_ld (by assumption) (by assumption) rfl) ?_)
      | with_reducible refine un_go ?_
      | ((with_reducible refine pk_f ?_ ?_); · rfl)
      | ((with_reducible refine pk_t ?_ ?_); · rfl)
      | (with_reducible refine c_ldk (by assumption) (by assumption) rfl ?_)
      | ((with_reducible refine c_row2 (by assumption) (by assumption) (by assumption) ?_); intro t w' hC')
      | ((with_reducible refine c_row3 (by assumption) (by assumption) (by assumption) (by assumption) ?_); intro t w' hC')
      | ((with_reducible refine c_int (by assumption) (by first | decide | omega) (by first | decide | omega) ?_); intro w' hC' hF')
      | ((with_reducible refine c_dig (by assumption) (by first | decide | omega) (by first | decide | omega) ?_); intro w' hC')
      | ((with_reducible refine c_alloc (by assumption) ?_); intro b w' hC')
      | with_reducible refine And.intro ?_ ?_)
  intro st g82 w812 hF
  obtain ⟨rfl, hx812⟩ := hF.out
  simp only [List.getD_cons_zero]
  rw [condW_false]
  clear hC0 hC1
  refine JoinW.cut (fun st w' => Ext w10 w') ?_ ?_
  · rw [bin_sne, condW_dec]
    refine ⟨fun hne => ?_, fun _ => hx812⟩
    obtain ⟨q1, q2, q3⟩ := cm_split hs1 hb1 hne
    have q4 := cm_join hs1 hb1 hne
    have q5 := cm_revl q2 q3
    have q6 : callM [114, 101, 118, 101, 114, 115, 101] [lV ((Lib.split s1 b1).reverse.map tV)] = (lV ((Lib.split s1 b1).map tV), 0) := by
      have := cm_revl (l := (Lib.split s1 b1).reverse) (by simpa using q2) (fun k hk => q3 k (List.mem_reverse.1 hk))
      rwa [List.reverse_reverse] at this
    have gl := good_keys q2 q3
    have gr := good_keys (ks := (Lib.split s1 b1).reverse) (by simpa using q2) (fun k hk => q3 k (List.mem_reverse.1 hk))
    generalize hl : (lV ((Lib.split s1 b1).map tV) : JV) = l at *
    generalize hr : (lV ((Lib.split s1 b1).reverse.map tV) : JV) = lr at *
    have kl : l.ks = [] := by rw [← hl]; rfl
    have kr : lr.ks = [] := by rw [← hr]; rfl
    have hfb : b1.length ≤ 9223372036854775807 := by omega
    have hC2 : Ctx w10 w812.drew [] [] := ((ctx0 w10).step hx812).step (Chg.drew (Chg.refl _ _))
    refine JoinW.cut (fun st w' => ∃ a sv kv, st = [.pointer (some ⟨a, 0, none⟩)] ∧ Ext w10 w' ∧ ValB w' a l sv kv) ?_ ?_
    · refine c_ldk hC2 hB7 rfl ?_
      have fin : ∀ {a w' sv kv}, Ext w10 w' → ValB w' a l sv kv → ∃ a' sv kv, [Value.pointer (some ⟨a, 0, none⟩)] = [.pointer (some ⟨a', 0, none⟩)] ∧ Ext w10 w' ∧ ValB w' a' l sv kv := fun h1 h2 => ⟨_, _, _, rfl, h1, h2⟩
      refine ⟨?_, ?_⟩
      · refine c_text hC2 hfb fun w815 h815 fb => ?_
        refine ⟨c_ld h815 hB7 rfl, ?_⟩
        refine ⟨?_, ?_⟩
        · refine c_row2 h815 fb hf7 fun t99 w816 h816 => ?_
          refine ⟨?_, ?_⟩
          · refine c_callv hT10 h816 List.mem_cons_self (by simp) rfl q1 fun cs w817 h817 hv _ => ?_
            exact copy_new hv fun a w819 sv kv hB hx => fin (h817.ext.trans hx) hB
          · refine c_alloc h816 fun a w820 h820 => ?_
            refine c_callv hT10 h820 List.mem_cons_self (by simp) rfl q1 fun cs w821 h821 hv hv' => ?_
            exact c_fin1 h821 List.mem_cons_self hv hv' fun w' sv kv hx hB => fin hx hB
        · refine c_alloc h815 fun a w823 h823 => ?_
          refine ⟨c_ld h823 hB7 rfl, ?_⟩
          refine c_row2 h823 fb hf7 fun t99 w824 h824 => ?_
          refine c_callv hT10 h824 List.mem_cons_self (by simp) rfl q1 fun cs w825 h825 hv hv' => ?_
          exact c_fin1 h825 List.mem_cons_self hv hv' fun w' sv kv hx hB => fin hx hB
      · refine c_alloc hC2 fun a w827 h827 => ?_
        refine ⟨c_ld h827 hB7 rfl, ?_⟩
        refine c_text h827 hfb fun w828 h828 fb => ?_
        refine ⟨c_ld h828 hB7 rfl, ?_⟩
        refine c_row2 h828 fb hf7 fun t99 w829 h829 => ?_
        refine c_callv hT10 h829 List.mem_cons_self (by simp) rfl q1 fun cs w830 h830 hv hv' => ?_
        exact c_fin1 h830 List.mem_cons_self hv hv' fun w' sv kv hx hB => fin hx hB
    rintro st g814 w832 ⟨a, sv, kv, rfl, hx832, hB⟩
    simp only [List.getD_cons_zero]
    have hBd := hB.ext (Chg.drew (Chg.refl _ w832) : Ext w832 w832.drew)
    have hC3 : Ctx w10 w832.drew [] [] := ((ctx0 w10).step hx832).step (Chg.drew (Chg.refl _ _))
    refine ld_all hBd.hb rfl ?_
    refine c_ldk hC3 hB7 rfl ?_
    refine text_ref2 fun w833 hx833 => ?_
    have h833 := hC3.step hx833
    have hB1 := hBd.ext hx833
    refine ⟨c_ld h833 hB7 rfl, ld_all hB1.hb rfl rfl, ?_⟩
    refine frow_v2 (fl_flat hfb w833) hB1.rep fun t105 w834 hI hx834 _ _ => ?_
    have h834 := h833.step hx834
    refine ⟨c_ld h834 hB7 rfl, ?_⟩
    refine call1_p (hT10.ext h834.ext) hI (by simp) (fun _ => by rw [pairs_2 rfl kl]; simp) q4 fun cs w835 hx835 hv => ?_
    have h835 := h834.step hx835
    refine ⟨c_ld h835 hB7 rfl, ?_⟩
    refine same_ref _ hv.rep (hf7 w835) fun w836 hx836 => ?_
    have h836 := h835.step hx836
    have hB2 := hB1.ext (hx834.trans (hx835.trans hx836))
    rw [(same_iff (tV s1) (tV s1)).2 rfl]
    refine un_go ?_
    refine gq_go rfl rfl ?_
    refine gq_go rfl rfl ?_
    refine gq_go rfl (ld_all hB2.hb rfl rfl) ?_
    refine gq_go rfl (ld_all hB2.hb rfl rfl) ?_
    refine ge_go rfl ?_
    refine frow_v1 hB2.rep fun t114 w842 hI2 hx842 => ?_
    have hB3 := hB2.ext hx842
    refine ⟨fun _ => ld_all hB3.hb rfl rfl, ?_⟩
    refine ge_go rfl ?_
    refine call1_p (hT10.ext (h836.step hx842).ext) hI2 (by simp) (fun _ => by rw [pairs_1 kl]; simp) q5 fun cs2 w844 hx844 hv2 => ?_
    have hB4 := hB3.ext hx844
    refine ⟨fun _ => ld_all hB4.hb rfl rfl, ?_⟩
    refine ge_go rfl ?_
    refine frow_v1 hv2.rep fun t116 w846 hI3 hx846 => ?_
    have hB5 := hB4.ext hx846
    refine ⟨fun _ => ld_all hB5.hb rfl rfl, ?_⟩
    refine ge_go rfl ?_
    refine call1_p (hT10.ext (((h836.step hx842).step hx844).step hx846).ext) hI3 (by simp) (fun _ => by rw [pairs_1 kr]; simp) q6 fun cs3 w848 hx848 hv3 => ?_
    have hB6 := hB5.ext hx848
    refine ⟨fun _ => ld_all hB6.hb rfl rfl, ?_⟩
    refine ge_go rfl ?_
    refine same_ref _ hv3.rep hB6.rep fun w850 hx850 => ?_
    rw [(same_iff l l).2 rfl]
    refine gq_go rfl rfl ?_
    refine pk_f rfl ?_
    show condW (.bool false) _ _
    rw [condW_false]
    exact ((((h836.step hx842).step hx844).step hx846).step (hx848.trans hx850)).ext
  intro st g813 w852 hx852
  rw [cvt_int]
  obtain ⟨u0, u1⟩ := u64_nonneg n
  rw [bin_rem]
  refine ⟨by decide, ?_⟩
  rw [cvt_int]
  obtain ⟨k, hk, ek⟩ : ∃ k : Nat, k < 400 ∧ IntKind.i64.wrap ((IntKind.u64.wrap n).tmod 400) = (k : Int) := by
    have e : (IntKind.u64.wrap n).tmod 400 = (IntKind.u64.wrap n) % 400 := Int.tmod_eq_emod_of_nonneg u0
    have h1 := Int.emod_nonneg (IntKind.u64.wrap n) (show (400 : Int) ≠ 0 by decide)
    have h2 := Int.emod_lt_of_pos (IntKind.u64.wrap n) (show (0 : Int) < 400 by decide)
    refine ⟨((IntKind.u64.wrap n) % 400).toNat, by omega, ?_⟩
    rw [e, wrap_id (by omega) (by omega)]
    omega
  rw [ek]
  obtain ⟨m, _, hmax1, hmax2⟩ := cm_max (a := (k : Int)) (b := n) (by omega) (by omega) hn1 hn2
  refine int_ref7 (by omega) (by omega) fun w853 hx853 => ?_
  refine alloc_new fun a11 w854 ha11 hz854 hb11 hx854 => ?_
  refine st_agg_at hb11 rfl rfl rfl fun w855 hz855 hb11' hc855 => ?_
  have hx855 : Ext w853 w855 := hx854.new hc855 (by omega)
  have hx10855 : Ext w10 w855 := hx852.trans (hx853.trans hx855)
  have hB7' := hx10855.at hB7 id
  have hT855 : TabF w855 := hT10.ext hx10855
  have hxf : Ext w w855 := hx10.trans hx10855
  have hf11 : FL (iV (k : Int)) (flat 3 false (Lib.itoa k)) := fl_flat (by have := itoa_len2 (n := (k : Int)) (by omega) (by omega); omega)
  clear hB7 hT10 hb11 hb9' hb7 hb9 hx10
  have hC4 : Ctx w855 w855.drew [] [] := (ctx0 w855).step (Chg.drew (Chg.refl _ _))
  refine JoinW.cut (Fin2 w855 (subM s1 0 k) (subM s1 k 400)) ?_ ?_
  · skip
    repeat (first
      | ((with_reducible refine fin2_go (by assumption) (by first | exact List.mem_cons_self | exact List.mem_cons_of_mem _ List.mem_cons_self) (by first | exact List.mem_cons_self | exact List.mem_cons_of_mem _ List.mem_cons_self) ?_ (by assumption) (by assumption)); first | exact (Ctx.ne2 (by assumption)).1 | exact (Ctx.ne2 (by assumption)).2)
      | ((with_reducible refine ge_go ?_ ?_); · rfl)
      | ((with_reducible apply gq_go); rfl; first | (with_reducible exact c_ld (by assumption) (by assumption) rfl) | (with_reducible exact part2) | ((with_reducible apply ne_str); exact e2; exact rfl) | ((with_reducible apply eq_str); (first | exact rfl | assumption); exact rfl) | (with_reducible exact rfl) | ((with_reducible apply un_go); exact rfl) | ((with_reducible apply pk_f); exact rfl; exact rfl) | ((with_reducible apply pk_t); exact rfl; exact rfl))
      | ((with_reducible refine c_row1 (by assumption) (by assumption) ?_); intro t w' hC')
      | ((with_reducible refine c_call (by assumption) (by assumption) (by first | exact List.mem_cons_self | exact List.mem_cons_of_mem _ List.mem_cons_self | (repeat (first | exact List.mem_cons_self | apply List.mem_cons_of_mem))) (by simp) (by with_unfolding_all rfl) (by first | assumption | exact cm_upper (by first | assumption | (simp only [casedM, List.length_map]; omega)) | exact cm_lower (by first | assumption | (simp only [casedM, List.length_map]; omega)) | exact cm_length (by first | assumption | (simp only [casedM, List.length_map]; omega)) | exact cm_rev (by first | assumption | (simp only [casedM, List.length_map]; omega)) | exact cm_sub0 hs1 (by omega) | exact cm_sub400 hs1 (by omega) | exact cm_tostr hn1 hn2 | exact cm_toint hn1 hn2) (by with_unfolding_all rfl) (by with_unfolding_all rfl) ?_); intro sv kv w' hC' hF')
      | ((with_reducible refine c_same (by assumption) (by assumption) (by assumption) (by first | assumption | rfl) ?_); intro w' hC')
      | (with_reducible refine And.intro (c_ld (by assumption) (by assumption) rfl) ?_)
      | (with_reducible refine And.intro (fun _ => c_ld (by assumption) (by assumption) rfl) ?_)
      | with_reducible refine un_go ?_
      | ((with_reducible refine pk_f ?_ ?_); · rfl)
      | ((with_reducible refine pk_t ?_ ?_); · rfl)
      | (with_reducible refine c_ldk (by assumption) (by assumption) rfl ?_)
      | ((with_reducible refine c_row2 (by assumption) (by assumption) (by assumption) ?_); intro t w' hC')
      | ((with_reducible refine c_row3 (by assumption) (by assumption) (by assumption) (by assumption) ?_); intro t w' hC')
      | ((with_reducible refine c_int (by assumption) (by first | decide | omega) (by first | decide | omega) ?_); intro w' hC' hF')
      | ((with_reducible refine c_dig (by assumption) (by first | decide | omega) (by first | decide | omega) ?_); intro w' hC')
      | ((with_reducible refine c_alloc (by assumption) ?_); intro b w' hC')
      | with_reducible refine And.intro ?_ ?_)
  intro st g856 w1199 hF
  obtain ⟨c12, c13, sv, kv, sv', kv', rfl, hx1199, h12, h13⟩ := hF.out
  simp only [List.getD_cons_zero, List.getD_cons_succ]
  have hC5 : Ctx w855 w1199.drew [] [] := ((ctx0 w855).step hx1199).step (Chg.drew (Chg.refl _ _))
  have hd : Ext w1199 w1199.drew := Chg.drew (Chg.refl _ _)
  rw [fld_ptr, ld_one]
  refine ⟨str (subM s1 0 k), by rw [add_mk, cell_eq, hd.at h12 id]; rfl, ?_⟩
  rw [fld_ptr, ld_one]
  refine ⟨str (subM s1 k 400), by rw [add_mk, cell_eq, hd.at h13 id]; rfl, ?_⟩
  have hjoin := sub_join hs1 hk
  rw [bin_sadd]
  have em : IntKind.i64.max = 9223372036854775807 := by decide
  refine ⟨by rw [em]; have := congrArg List.length hjoin; rw [List.length_append] at this; omega, ?_⟩
  rw [hjoin, bin_seq, decide_eq_true rfl]
  repeat (first
    | ((with_reducible refine ge_go ?_ ?_); · rfl)
    | ((with_reducible apply gq_go); rfl; first | (with_reducible exact c_ld (by assumption) (by assumption) rfl) | (with_reducible exact part2) | ((with_reducible apply ne_str); exact e2; exact rfl) | ((with_reducible apply eq_str); (first | exact rfl | assumption); exact rfl) | (with_reducible exact rfl) | ((with_reducible apply un_go); exact rfl) | ((with_reducible apply pk_f); exact rfl; exact rfl) | ((with_reducible apply pk_t); exact rfl; exact rfl))
    | ((with_reducible refine c_row1 (by assumption) (by assumption) ?_); intro t w' hC')
    | ((with_reducible refine c_call (by assumption) (by assumption) (by first | exact List.mem_cons_self | exact List.mem_cons_of_mem _ List.mem_cons_self | (repeat (first | exact List.mem_cons_self | apply List.mem_cons_of_mem))) (by simp) (by with_unfolding_all rfl) (by first | assumption | exact cm_upper (by first | assumption | (simp only [casedM, List.length_map]; omega)) | exact cm_lower (by first | assumption | (simp only [casedM, List.length_map]; omega)) | exact cm_length (by first | assumption | (simp only [casedM, List.length_map]; omega)) | exact cm_rev (by first | assumption | (simp only [casedM, List.length_map]; omega)) | exact cm_sub0 hs1 (by omega) | exact cm_sub400 hs1 (by omega) | exact cm_tostr hn1 hn2 | exact cm_toint hn1 hn2) (by with_unfolding_all rfl) (by with_unfolding_all rfl) ?_); intro sv kv w' hC' hF')
    | ((with_reducible refine c_same (by assumption) (by assumption) (by assumption) (by first | assumption | rfl) ?_); intro w' hC')
    | (with_reducible refine And.intro (c_ld (by assumption) (by assumption) rfl) ?_)
    | (with_reducible refine And.intro (fun _ => c_ld (by assumption) (by assumption) rfl) ?_)
    | with_reducible refine un_go ?_
    | ((with_reducible refine pk_f ?_ ?_); · rfl)
    | ((with_reducible refine pk_t ?_ ?_); · rfl)
    | (with_reducible refine c_ldk (by assumption) (by assumption) rfl ?_)
    | ((with_reducible refine c_row2 (by assumption) (by assumption) (by assumption) ?_); intro t w' hC')
    | ((with_reducible refine c_row3 (by assumption) (by assumption) (by assumption) (by assumption) ?_); intro t w' hC')
    | ((with_reducible refine c_int (by assumption) (by first | decide | omega) (by first | decide | omega) ?_); intro w' hC' hF')
    | ((with_reducible refine c_dig (by assumption) (by first | decide | omega) (by first | decide | omega) ?_); intro w' hC')
    | ((with_reducible refine c_alloc (by assumption) ?_); intro b w' hC')
    | with_reducible refine And.intro ?_ ?_)
  exact hK _ (hxf.trans (Ctx.ext (by assumption)))
end
end Go.Proofs.YtdkikjcpgihjlaaGreatDoor

namespace Go.Proofs.YtdkikjcpgihjlaaGreatDoor
open Go Go.Eng Go.Num Go.Deep
set_option maxRecDepth 100000
instance : Inhabited JV := ⟨JV.null⟩
section
variable {H : Type} {enc : TypeId × Value → H} {w : World} {base : Nat} {spare : Nat → Bool} {held : Bool}
end
end Go.Proofs.YtdkikjcpgihjlaaGreatDoor

namespace Go.Proofs.YtdkikjcpgihjlaaGreatDoor
open Go Go.RowKit Go.Eng
set_option maxRecDepth 100000
theorem ftab_reads {P : Program} {w : World} {name : String} {k : IntKind} {zs : List Int} {g : Nat} {t e : TypeId} {n : Nat} (hg : P.globalNamed name = some g) (hty : (P.globals[g]?).map (·.type) = some t) (ht : P.underlying t = some (.array n e)) (he : P.underlying e = some (.int k)) (hce : P.cellsOf e = 1) (hct : P.cellsOf t = n)
    (h : Lib.VarReads P w name (Lib.tabData k zs)) : Lib.TabIs P w name k zs := by
  obtain ⟨g', t', cs, fuel, p, hg', ht', hvar, hd⟩ := h
  obtain rfl := Option.some.inj (hg.symm.trans hg')
  obtain rfl := Option.some.inj (hty.symm.trans ht')
  unfold Lib.TabIs
  rw [hvar, ← Lib.cells_of_tab ht he hce hct hd]
theorem ftrod_iface {P : Program} {w : World} {fuel : Nat} {t : TypeId} {cs : List Value} {s : String} {x : DataW Unit} {p : List MemPlace} {m : Array TypeId} (ht : ∃ m, P.underlying t = some (.interface m)) (h : DataW.trod (fun _ => ()) P w 0 (fun _ => true) false fuel t cs = some (.iface s x, p)) : ∃ u v, cs = [.iface u v] := by
  obtain ⟨m, ht⟩ := ht
  cases fuel with
  | zero => cases h
  | succ fuel =>
    unfold DataW.trod at h
    rw [ht] at h
    match cs, h with
    | [], h => cases h
    | [v], h =>
      cases v with
      | iface u v => exact ⟨u, v, rfl⟩
      | _ => cases h
    | a :: b :: r, h => simp at h
theorem ftab_err {w : World} {nm : String} {g : Nat} {x : DataW Unit} {s : String} (hg : Tryz.prog.globalNamed nm = some g) (hty : (Tryz.prog.globals[g]?).map (·.type) = some 106) (h : Lib.VarReads Tryz.prog w nm (.iface s x)) : ∃ T v, w.cell? ⟨g, 0, none⟩ = some (.iface T v) := by
  obtain ⟨g', t', cs, fuel, p, hg', ht', hvar, hd⟩ := h
  obtain rfl := Option.some.inj (hg.symm.trans hg')
  obtain rfl := Option.some.inj (hty.symm.trans ht')
  obtain ⟨u, v, hcs⟩ := ftrod_iface (m := #[]) ⟨_, Tryz.underlying106⟩ hd
  have := World.var?_cell hg hvar 0
  refine ⟨u, v, ?_⟩
  rw [this]
  have e : cs = #[.iface u v] := by
    apply Array.ext'
    rw [hcs]
  rw [e]; rfl
theorem tabf_of {w : World} (hL : laidMetH Tryz.prog Rows.funcsNamesRow.laid w) (hsh : w.ShapedOpen Tryz.prog) : TabF w := by
  have h : laidMet Tryz.prog Rows.funcsNamesRow.laid w := by
    rw [Go.MakeChecks.laidMetH_plain _ _ _ (by kernel_rfl)] at hL
    exact hL
  have r : ∀ n d, (n, d) ∈ Rows.funcsNamesRow.laid → Lib.VarReads Tryz.prog w n d := fun n d hm => Lib.laidMet.reads h hm
  have r2 : Lib.VarReads Tryz.prog w "internal/strconv.uint64pow10" (Lib.tabData .u64 Lib.pow10Tab) := r _ _ (.tail _ (.tail _ (.head _)))
  have r4 : Lib.VarReads Tryz.prog w "strconv.ErrRange" Rows.laid_strconv_ErrRange := r _ _ (.tail _ (.tail _ (.tail _ (.tail _ (.head _)))))
  have r5 : Lib.VarReads Tryz.prog w "strconv.ErrSyntax" Rows.laid_strconv_ErrSyntax := r _ _ (.tail _ (.tail _ (.tail _ (.tail _ (.tail _ (.head _))))))
  refine ⟨?_, ftab_err (by kernel_rfl) (by kernel_rfl) r5, ftab_err (by kernel_rfl) (by kernel_rfl) r4, ?_⟩
  · exact ftab_reads (g := 5) (t := 199) (e := 122) (n := 20) (by kernel_rfl) (by kernel_rfl) (by kernel_rfl) (by kernel_rfl) (by kernel_rfl) (by kernel_rfl) r2
  · exact Go.Proofs.cell_of_shapedOpen_int (t := 3) (zero := #[.int .i64 0]) hsh (of_decide_eq_true (by kernel_rfl)) (by kernel_rfl) rfl (by kernel_rfl) (by kernel_rfl) Tryz.underlying3
theorem handed_and_shaped {H : Type} {enc : TypeId × Value → H} {a : Assume} {C : Checked} {os : Os} {f : FuncId} {fn : Func} {s : ChangeSpec} {conds : List PathCond} {apart fresh handsOn again : Bool} {X : World → Array Value → Prop}
    (hX : ∀ (w w' : World) (args : Array Value), w.heap = w'.heap → X w args → X w' args)
    (own : ownKnob C.prog.godebug = none) (started : os.Started) (noInit : C.prog.inits.idxOf? f = none) (hfn : C.prog.funcs[f]? = some fn)
    (witness : ∃ (w : World) (tape : Tape) (i : Input), w.os = os ∧ (w.forCall tape i).Shaped C.prog ∧ i.vars = [] ∧ Input.okWide C.prog (w.forCall tape i) .any w.heap.size f i ∧
      ((s.pre enc C.prog fn conds apart (w.forCall tape i).memory i.args ∧ X (w.forCall tape i).memory i.args) ∧ sizedMet enc C.prog fn (OpenSpec.ofChange s) apart (w.forCall tape i).memory i.args) ∧ a.holds C.prog (lone (Frame.enter C.prog f i.args .normal) [] (w.forCall tape i)))
    (contract : ∀ (W : World) (base : Nat) (args : Array Value) (ds gs : List (DataW H)) (before : List MemPlace),
      (∀ (j : Nat) t v, fn.params[j]? = some t → args[j]? = some v → Value.okWide C.prog W .any base t v) →
      DataW.Whole enc C.prog fn.params.toList s.vars apart W args.toList ds gs before →
      conds.all (PathCond.test C.prog ⟨fn.params.toList, ds, s.plain.varTypes C.prog, gs⟩) = true →
      (DataW.weightsEach C.prog (fn.params.toList ++ s.plain.varTypes C.prog) (ds ++ gs)).all (· ≤ reachBytes) = true → X W args → W.ShapedOpen C.prog →
      a.holds C.prog (lone (Frame.enter C.prog f args .normal) [] W) →
      Calls C.prog f args W fun e W' => ∃ v, e = .returned v ∧ s.post enc C.prog fn apart fresh handsOn again W args v W') :
    ReturnsInHanded a C os f .any (fun w args => (s.pre enc C.prog fn conds apart w args ∧ X w args) ∧ sizedMet enc C.prog fn (OpenSpec.ofChange s) apart w args) (s.post enc C.prog fn apart fresh handsOn again) := by
  refine returnsInHanded_of_calls own started noInit witness ?_
  intro w tape i _ hsh _ hok hpre hholds
  obtain ⟨_, _, _, fn', hfn', _, _, _, _, hval⟩ := hok
  have e : fn' = fn := Option.some.inj (hfn'.symm.trans hfn)
  subst e
  obtain ⟨⟨⟨ds, gs, before, hw, hc⟩, hx⟩, hz⟩ := hpre
  have hw' := DataW.Whole.of_heap (w' := w.forCall tape i) (by rfl) hw
  refine (contract (w.forCall tape i) w.heap.size i.args ds gs before hval hw' hc (hz.weights hw) (hX _ _ _ (by rfl) hx) hsh hholds).mono fun e W' ⟨v, he, hp⟩ => ?_
  subst he
  exact ChangeSpec.post_blind hp
section
variable {H : Type} {enc : TypeId × Value → H} {w : World} {base : Nat} {spare : Nat → Bool} {held : Bool}
theorem fopen_s {v : Value} {d : DataW H} {ps : List MemPlace} {r : Reach} {b0 : Nat} (hval : Value.okWide Tryz.prog w r b0 9 v) (h : DataW.Trod enc Tryz.prog w base spare held 9 v d ps) : ∃ s : Str, v = str s ∧ s.length ≤ 9223372036854775807 := by
  obtain ⟨s, rfl, _, _, hs⟩ := Go.ChangeMaps.open_string Tryz.underlying9 hval h
  exact ⟨s.data.toList, by simp [ofL], by unfold maxLen at hs; simpa using hs⟩
theorem fopen_i {v : Value} {d : DataW H} {ps : List MemPlace} {r : Reach} {b0 : Nat} (hval : Value.okWide Tryz.prog w r b0 3 v) (h : DataW.Trod enc Tryz.prog w base spare held 3 v d ps) : ∃ n : Int, v = i64 n ∧ -9223372036854775808 ≤ n ∧ n ≤ 9223372036854775807 := by
  obtain ⟨n, rfl, _, _, hw⟩ := Go.ChangeShapes.open_int Tryz.underlying3 hval h
  refine ⟨n, rfl, ?_⟩
  have e1 : IntKind.i64.min = -9223372036854775808 := by decide
  have e2 : IntKind.i64.max = 9223372036854775807 := by decide
  simp only [Lit.wf, Bool.and_eq_true, decide_eq_true_eq, e1, e2] at hw
  exact hw
end
end Go.Proofs.YtdkikjcpgihjlaaGreatDoor
