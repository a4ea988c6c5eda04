/-
  Parts of the proof, one behind the other. Own work of this seat; some printed by its programs.
-/
import Derived.Test.YtanocopjancaiaaDoorM3
import Derived.Test.YtanocopjancaiaaDoorM4
import Derived.Test.YtanocopjancaiaaDoorCards
import Derived.Test.YtanocopjancaiaaDoorTie
import Derived.ProofKit
import Derived.OpenShut
import Derived.Deep.DeepHandedRow
import Derived.Lib.LaidTab
/-
  Y, part 13: what a function comes to at given values, by computation: functions in a table, rounds of calls. Own work of this seat.
-/
namespace Go.Abs
variable {P : Program} {tabs : List FE} {ow : Cfg}
structure Ent (P : Program) (tabs : List FE) (ow : Cfg) where
  f : Nat
  l : Nat
  g : Gam → List V → Option V
  ok : ∀ (e : Nat → List V → Option V) (Γ : Gam) (xs : List V) (r : V), g Γ xs = some r → Go.Abs.step P tabs e ow Γ f l xs = some r
/-! functions of n values -/
section
variable {f l : Nat}
def ar0 (a : Gam → Option V) : Gam → List V → Option V := fun Γ xs => match xs with | [] => a Γ  | _ => none
theorem ok0 {a : Gam → Option V} (h : ∀ (e : Nat → List V → Option V) (Γ : Gam), Go.Abs.step P tabs e ow Γ f l [] = a Γ ) (e : Nat → List V → Option V) (Γ : Gam) (xs : List V) (r : V) (hr : ar0 a Γ xs = some r) : Go.Abs.step P tabs e ow Γ f l xs = some r := by
  unfold ar0 at hr
  split at hr
  · rw [h]; exact hr
  · cases hr
def ar1 (a : Gam → V → Option V) : Gam → List V → Option V := fun Γ xs => match xs with | [v0] => a Γ v0 | _ => none
theorem ok1 {a : Gam → V → Option V} (h : ∀ (e : Nat → List V → Option V) (Γ : Gam) (v0 : V), Go.Abs.step P tabs e ow Γ f l [v0] = a Γ v0) (e : Nat → List V → Option V) (Γ : Gam) (xs : List V) (r : V) (hr : ar1 a Γ xs = some r) : Go.Abs.step P tabs e ow Γ f l xs = some r := by
  unfold ar1 at hr
  split at hr
  · rw [h]; exact hr
  · cases hr
def ar2 (a : Gam → V → V → Option V) : Gam → List V → Option V := fun Γ xs => match xs with | [v0, v1] => a Γ v0 v1 | _ => none
theorem ok2 {a : Gam → V → V → Option V} (h : ∀ (e : Nat → List V → Option V) (Γ : Gam) (v0 v1 : V), Go.Abs.step P tabs e ow Γ f l [v0, v1] = a Γ v0 v1) (e : Nat → List V → Option V) (Γ : Gam) (xs : List V) (r : V) (hr : ar2 a Γ xs = some r) : Go.Abs.step P tabs e ow Γ f l xs = some r := by
  unfold ar2 at hr
  split at hr
  · rw [h]; exact hr
  · cases hr
def ar3 (a : Gam → V → V → V → Option V) : Gam → List V → Option V := fun Γ xs => match xs with | [v0, v1, v2] => a Γ v0 v1 v2 | _ => none
theorem ok3 {a : Gam → V → V → V → Option V} (h : ∀ (e : Nat → List V → Option V) (Γ : Gam) (v0 v1 v2 : V), Go.Abs.step P tabs e ow Γ f l [v0, v1, v2] = a Γ v0 v1 v2) (e : Nat → List V → Option V) (Γ : Gam) (xs : List V) (r : V) (hr : ar3 a Γ xs = some r) : Go.Abs.step P tabs e ow Γ f l xs = some r := by
  unfold ar3 at hr
  split at hr
  · rw [h]; exact hr
  · cases hr
def ar4 (a : Gam → V → V → V → V → Option V) : Gam → List V → Option V := fun Γ xs => match xs with | [v0, v1, v2, v3] => a Γ v0 v1 v2 v3 | _ => none
theorem ok4 {a : Gam → V → V → V → V → Option V} (h : ∀ (e : Nat → List V → Option V) (Γ : Gam) (v0 v1 v2 v3 : V), Go.Abs.step P tabs e ow Γ f l [v0, v1, v2, v3] = a Γ v0 v1 v2 v3) (e : Nat → List V → Option V) (Γ : Gam) (xs : List V) (r : V) (hr : ar4 a Γ xs = some r) : Go.Abs.step P tabs e ow Γ f l xs = some r := by
  unfold ar4 at hr
  split at hr
  · rw [h]; exact hr
  · cases hr
def ar5 (a : Gam → V → V → V → V → V → Option V) : Gam → List V → Option V := fun Γ xs => match xs with | [v0, v1, v2, v3, v4] => a Γ v0 v1 v2 v3 v4 | _ => none
theorem ok5 {a : Gam → V → V → V → V → V → Option V} (h : ∀ (e : Nat → List V → Option V) (Γ : Gam) (v0 v1 v2 v3 v4 : V), Go.Abs.step P tabs e ow Γ f l [v0, v1, v2, v3, v4] = a Γ v0 v1 v2 v3 v4) (e : Nat → List V → Option V) (Γ : Gam) (xs : List V) (r : V) (hr : ar5 a Γ xs = some r) : Go.Abs.step P tabs e ow Γ f l xs = some r := by
  unfold ar5 at hr
  split at hr
  · rw [h]; exact hr
  · cases hr
def ar6 (a : Gam → V → V → V → V → V → V → Option V) : Gam → List V → Option V := fun Γ xs => match xs with | [v0, v1, v2, v3, v4, v5] => a Γ v0 v1 v2 v3 v4 v5 | _ => none
theorem ok6 {a : Gam → V → V → V → V → V → V → Option V} (h : ∀ (e : Nat → List V → Option V) (Γ : Gam) (v0 v1 v2 v3 v4 v5 : V), Go.Abs.step P tabs e ow Γ f l [v0, v1, v2, v3, v4, v5] = a Γ v0 v1 v2 v3 v4 v5) (e : Nat → List V → Option V) (Γ : Gam) (xs : List V) (r : V) (hr : ar6 a Γ xs = some r) : Go.Abs.step P tabs e ow Γ f l xs = some r := by
  unfold ar6 at hr
  split at hr
  · rw [h]; exact hr
  · cases hr
def ar7 (a : Gam → V → V → V → V → V → V → V → Option V) : Gam → List V → Option V := fun Γ xs => match xs with | [v0, v1, v2, v3, v4, v5, v6] => a Γ v0 v1 v2 v3 v4 v5 v6 | _ => none
theorem ok7 {a : Gam → V → V → V → V → V → V → V → Option V} (h : ∀ (e : Nat → List V → Option V) (Γ : Gam) (v0 v1 v2 v3 v4 v5 v6 : V), Go.Abs.step P tabs e ow Γ f l [v0, v1, v2, v3, v4, v5, v6] = a Γ v0 v1 v2 v3 v4 v5 v6) (e : Nat → List V → Option V) (Γ : Gam) (xs : List V) (r : V) (hr : ar7 a Γ xs = some r) : Go.Abs.step P tabs e ow Γ f l xs = some r := by
  unfold ar7 at hr
  split at hr
  · rw [h]; exact hr
  · cases hr
def ar8 (a : Gam → V → V → V → V → V → V → V → V → Option V) : Gam → List V → Option V := fun Γ xs => match xs with | [v0, v1, v2, v3, v4, v5, v6, v7] => a Γ v0 v1 v2 v3 v4 v5 v6 v7 | _ => none
theorem ok8 {a : Gam → V → V → V → V → V → V → V → V → Option V} (h : ∀ (e : Nat → List V → Option V) (Γ : Gam) (v0 v1 v2 v3 v4 v5 v6 v7 : V), Go.Abs.step P tabs e ow Γ f l [v0, v1, v2, v3, v4, v5, v6, v7] = a Γ v0 v1 v2 v3 v4 v5 v6 v7) (e : Nat → List V → Option V) (Γ : Gam) (xs : List V) (r : V) (hr : ar8 a Γ xs = some r) : Go.Abs.step P tabs e ow Γ f l xs = some r := by
  unfold ar8 at hr
  split at hr
  · rw [h]; exact hr
  · cases hr
def ar9 (a : Gam → V → V → V → V → V → V → V → V → V → Option V) : Gam → List V → Option V := fun Γ xs => match xs with | [v0, v1, v2, v3, v4, v5, v6, v7, v8] => a Γ v0 v1 v2 v3 v4 v5 v6 v7 v8 | _ => none
theorem ok9 {a : Gam → V → V → V → V → V → V → V → V → V → Option V} (h : ∀ (e : Nat → List V → Option V) (Γ : Gam) (v0 v1 v2 v3 v4 v5 v6 v7 v8 : V), Go.Abs.step P tabs e ow Γ f l [v0, v1, v2, v3, v4, v5, v6, v7, v8] = a Γ v0 v1 v2 v3 v4 v5 v6 v7 v8) (e : Nat → List V → Option V) (Γ : Gam) (xs : List V) (r : V) (hr : ar9 a Γ xs = some r) : Go.Abs.step P tabs e ow Γ f l xs = some r := by
  unfold ar9 at hr
  split at hr
  · rw [h]; exact hr
  · cases hr
def ar10 (a : Gam → V → V → V → V → V → V → V → V → V → V → Option V) : Gam → List V → Option V := fun Γ xs => match xs with | [v0, v1, v2, v3, v4, v5, v6, v7, v8, v9] => a Γ v0 v1 v2 v3 v4 v5 v6 v7 v8 v9 | _ => none
theorem ok10 {a : Gam → V → V → V → V → V → V → V → V → V → V → Option V} (h : ∀ (e : Nat → List V → Option V) (Γ : Gam) (v0 v1 v2 v3 v4 v5 v6 v7 v8 v9 : V), Go.Abs.step P tabs e ow Γ f l [v0, v1, v2, v3, v4, v5, v6, v7, v8, v9] = a Γ v0 v1 v2 v3 v4 v5 v6 v7 v8 v9) (e : Nat → List V → Option V) (Γ : Gam) (xs : List V) (r : V) (hr : ar10 a Γ xs = some r) : Go.Abs.step P tabs e ow Γ f l xs = some r := by
  unfold ar10 at hr
  split at hr
  · rw [h]; exact hr
  · cases hr
def ar11 (a : Gam → V → V → V → V → V → V → V → V → V → V → V → Option V) : Gam → List V → Option V := fun Γ xs => match xs with | [v0, v1, v2, v3, v4, v5, v6, v7, v8, v9, v10] => a Γ v0 v1 v2 v3 v4 v5 v6 v7 v8 v9 v10 | _ => none
theorem ok11 {a : Gam → V → V → V → V → V → V → V → V → V → V → V → Option V} (h : ∀ (e : Nat → List V → Option V) (Γ : Gam) (v0 v1 v2 v3 v4 v5 v6 v7 v8 v9 v10 : V), Go.Abs.step P tabs e ow Γ f l [v0, v1, v2, v3, v4, v5, v6, v7, v8, v9, v10] = a Γ v0 v1 v2 v3 v4 v5 v6 v7 v8 v9 v10) (e : Nat → List V → Option V) (Γ : Gam) (xs : List V) (r : V) (hr : ar11 a Γ xs = some r) : Go.Abs.step P tabs e ow Γ f l xs = some r := by
  unfold ar11 at hr
  split at hr
  · rw [h]; exact hr
  · cases hr
def ar12 (a : Gam → V → V → V → V → V → V → V → V → V → V → V → V → Option V) : Gam → List V → Option V := fun Γ xs => match xs with | [v0, v1, v2, v3, v4, v5, v6, v7, v8, v9, v10, v11] => a Γ v0 v1 v2 v3 v4 v5 v6 v7 v8 v9 v10 v11 | _ => none
theorem ok12 {a : Gam → V → V → V → V → V → V → V → V → V → V → V → V → Option V} (h : ∀ (e : Nat → List V → Option V) (Γ : Gam) (v0 v1 v2 v3 v4 v5 v6 v7 v8 v9 v10 v11 : V), Go.Abs.step P tabs e ow Γ f l [v0, v1, v2, v3, v4, v5, v6, v7, v8, v9, v10, v11] = a Γ v0 v1 v2 v3 v4 v5 v6 v7 v8 v9 v10 v11) (e : Nat → List V → Option V) (Γ : Gam) (xs : List V) (r : V) (hr : ar12 a Γ xs = some r) : Go.Abs.step P tabs e ow Γ f l xs = some r := by
  unfold ar12 at hr
  split at hr
  · rw [h]; exact hr
  · cases hr
def ar13 (a : Gam → V → V → V → V → V → V → V → V → V → V → V → V → V → Option V) : Gam → List V → Option V := fun Γ xs => match xs with | [v0, v1, v2, v3, v4, v5, v6, v7, v8, v9, v10, v11, v12] => a Γ v0 v1 v2 v3 v4 v5 v6 v7 v8 v9 v10 v11 v12 | _ => none
theorem ok13 {a : Gam → V → V → V → V → V → V → V → V → V → V → V → V → V → Option V} (h : ∀ (e : Nat → List V → Option V) (Γ : Gam) (v0 v1 v2 v3 v4 v5 v6 v7 v8 v9 v10 v11 v12 : V), Go.Abs.step P tabs e ow Γ f l [v0, v1, v2, v3, v4, v5, v6, v7, v8, v9, v10, v11, v12] = a Γ v0 v1 v2 v3 v4 v5 v6 v7 v8 v9 v10 v11 v12) (e : Nat → List V → Option V) (Γ : Gam) (xs : List V) (r : V) (hr : ar13 a Γ xs = some r) : Go.Abs.step P tabs e ow Γ f l xs = some r := by
  unfold ar13 at hr
  split at hr
  · rw [h]; exact hr
  · cases hr
def ar14 (a : Gam → V → V → V → V → V → V → V → V → V → V → V → V → V → V → Option V) : Gam → List V → Option V := fun Γ xs => match xs with | [v0, v1, v2, v3, v4, v5, v6, v7, v8, v9, v10, v11, v12, v13] => a Γ v0 v1 v2 v3 v4 v5 v6 v7 v8 v9 v10 v11 v12 v13 | _ => none
theorem ok14 {a : Gam → V → V → V → V → V → V → V → V → V → V → V → V → V → V → Option V} (h : ∀ (e : Nat → List V → Option V) (Γ : Gam) (v0 v1 v2 v3 v4 v5 v6 v7 v8 v9 v10 v11 v12 v13 : V), Go.Abs.step P tabs e ow Γ f l [v0, v1, v2, v3, v4, v5, v6, v7, v8, v9, v10, v11, v12, v13] = a Γ v0 v1 v2 v3 v4 v5 v6 v7 v8 v9 v10 v11 v12 v13) (e : Nat → List V → Option V) (Γ : Gam) (xs : List V) (r : V) (hr : ar14 a Γ xs = some r) : Go.Abs.step P tabs e ow Γ f l xs = some r := by
  unfold ar14 at hr
  split at hr
  · rw [h]; exact hr
  · cases hr
def ar15 (a : Gam → V → V → V → V → V → V → V → V → V → V → V → V → V → V → V → Option V) : Gam → List V → Option V := fun Γ xs => match xs with | [v0, v1, v2, v3, v4, v5, v6, v7, v8, v9, v10, v11, v12, v13, v14] => a Γ v0 v1 v2 v3 v4 v5 v6 v7 v8 v9 v10 v11 v12 v13 v14 | _ => none
theorem ok15 {a : Gam → V → V → V → V → V → V → V → V → V → V → V → V → V → V → V → Option V} (h : ∀ (e : Nat → List V → Option V) (Γ : Gam) (v0 v1 v2 v3 v4 v5 v6 v7 v8 v9 v10 v11 v12 v13 v14 : V), Go.Abs.step P tabs e ow Γ f l [v0, v1, v2, v3, v4, v5, v6, v7, v8, v9, v10, v11, v12, v13, v14] = a Γ v0 v1 v2 v3 v4 v5 v6 v7 v8 v9 v10 v11 v12 v13 v14) (e : Nat → List V → Option V) (Γ : Gam) (xs : List V) (r : V) (hr : ar15 a Γ xs = some r) : Go.Abs.step P tabs e ow Γ f l xs = some r := by
  unfold ar15 at hr
  split at hr
  · rw [h]; exact hr
  · cases hr
def ar16 (a : Gam → V → V → V → V → V → V → V → V → V → V → V → V → V → V → V → V → Option V) : Gam → List V → Option V := fun Γ xs => match xs with | [v0, v1, v2, v3, v4, v5, v6, v7, v8, v9, v10, v11, v12, v13, v14, v15] => a Γ v0 v1 v2 v3 v4 v5 v6 v7 v8 v9 v10 v11 v12 v13 v14 v15 | _ => none
theorem ok16 {a : Gam → V → V → V → V → V → V → V → V → V → V → V → V → V → V → V → V → Option V} (h : ∀ (e : Nat → List V → Option V) (Γ : Gam) (v0 v1 v2 v3 v4 v5 v6 v7 v8 v9 v10 v11 v12 v13 v14 v15 : V), Go.Abs.step P tabs e ow Γ f l [v0, v1, v2, v3, v4, v5, v6, v7, v8, v9, v10, v11, v12, v13, v14, v15] = a Γ v0 v1 v2 v3 v4 v5 v6 v7 v8 v9 v10 v11 v12 v13 v14 v15) (e : Nat → List V → Option V) (Γ : Gam) (xs : List V) (r : V) (hr : ar16 a Γ xs = some r) : Go.Abs.step P tabs e ow Γ f l xs = some r := by
  unfold ar16 at hr
  split at hr
  · rw [h]; exact hr
  · cases hr
def ar17 (a : Gam → V → V → V → V → V → V → V → V → V → V → V → V → V → V → V → V → V → Option V) : Gam → List V → Option V := fun Γ xs => match xs with | [v0, v1, v2, v3, v4, v5, v6, v7, v8, v9, v10, v11, v12, v13, v14, v15, v16] => a Γ v0 v1 v2 v3 v4 v5 v6 v7 v8 v9 v10 v11 v12 v13 v14 v15 v16 | _ => none
theorem ok17 {a : Gam → V → V → V → V → V → V → V → V → V → V → V → V → V → V → V → V → V → Option V} (h : ∀ (e : Nat → List V → Option V) (Γ : Gam) (v0 v1 v2 v3 v4 v5 v6 v7 v8 v9 v10 v11 v12 v13 v14 v15 v16 : V), Go.Abs.step P tabs e ow Γ f l [v0, v1, v2, v3, v4, v5, v6, v7, v8, v9, v10, v11, v12, v13, v14, v15, v16] = a Γ v0 v1 v2 v3 v4 v5 v6 v7 v8 v9 v10 v11 v12 v13 v14 v15 v16) (e : Nat → List V → Option V) (Γ : Gam) (xs : List V) (r : V) (hr : ar17 a Γ xs = some r) : Go.Abs.step P tabs e ow Γ f l xs = some r := by
  unfold ar17 at hr
  split at hr
  · rw [h]; exact hr
  · cases hr
def ar18 (a : Gam → V → V → V → V → V → V → V → V → V → V → V → V → V → V → V → V → V → V → Option V) : Gam → List V → Option V := fun Γ xs => match xs with | [v0, v1, v2, v3, v4, v5, v6, v7, v8, v9, v10, v11, v12, v13, v14, v15, v16, v17] => a Γ v0 v1 v2 v3 v4 v5 v6 v7 v8 v9 v10 v11 v12 v13 v14 v15 v16 v17 | _ => none
theorem ok18 {a : Gam → V → V → V → V → V → V → V → V → V → V → V → V → V → V → V → V → V → V → Option V} (h : ∀ (e : Nat → List V → Option V) (Γ : Gam) (v0 v1 v2 v3 v4 v5 v6 v7 v8 v9 v10 v11 v12 v13 v14 v15 v16 v17 : V), Go.Abs.step P tabs e ow Γ f l [v0, v1, v2, v3, v4, v5, v6, v7, v8, v9, v10, v11, v12, v13, v14, v15, v16, v17] = a Γ v0 v1 v2 v3 v4 v5 v6 v7 v8 v9 v10 v11 v12 v13 v14 v15 v16 v17) (e : Nat → List V → Option V) (Γ : Gam) (xs : List V) (r : V) (hr : ar18 a Γ xs = some r) : Go.Abs.step P tabs e ow Γ f l xs = some r := by
  unfold ar18 at hr
  split at hr
  · rw [h]; exact hr
  · cases hr
def ar19 (a : Gam → V → V → V → V → V → V → V → V → V → V → V → V → V → V → V → V → V → V → V → Option V) : Gam → List V → Option V := fun Γ xs => match xs with | [v0, v1, v2, v3, v4, v5, v6, v7, v8, v9, v10, v11, v12, v13, v14, v15, v16, v17, v18] => a Γ v0 v1 v2 v3 v4 v5 v6 v7 v8 v9 v10 v11 v12 v13 v14 v15 v16 v17 v18 | _ => none
theorem ok19 {a : Gam → V → V → V → V → V → V → V → V → V → V → V → V → V → V → V → V → V → V → V → Option V} (h : ∀ (e : Nat → List V → Option V) (Γ : Gam) (v0 v1 v2 v3 v4 v5 v6 v7 v8 v9 v10 v11 v12 v13 v14 v15 v16 v17 v18 : V), Go.Abs.step P tabs e ow Γ f l [v0, v1, v2, v3, v4, v5, v6, v7, v8, v9, v10, v11, v12, v13, v14, v15, v16, v17, v18] = a Γ v0 v1 v2 v3 v4 v5 v6 v7 v8 v9 v10 v11 v12 v13 v14 v15 v16 v17 v18) (e : Nat → List V → Option V) (Γ : Gam) (xs : List V) (r : V) (hr : ar19 a Γ xs = some r) : Go.Abs.step P tabs e ow Γ f l xs = some r := by
  unfold ar19 at hr
  split at hr
  · rw [h]; exact hr
  · cases hr
def ar20 (a : Gam → V → V → V → V → V → V → V → V → V → V → V → V → V → V → V → V → V → V → V → V → Option V) : Gam → List V → Option V := fun Γ xs => match xs with | [v0, v1, v2, v3, v4, v5, v6, v7, v8, v9, v10, v11, v12, v13, v14, v15, v16, v17, v18, v19] => a Γ v0 v1 v2 v3 v4 v5 v6 v7 v8 v9 v10 v11 v12 v13 v14 v15 v16 v17 v18 v19 | _ => none
theorem ok20 {a : Gam → V → V → V → V → V → V → V → V → V → V → V → V → V → V → V → V → V → V → V → V → Option V} (h : ∀ (e : Nat → List V → Option V) (Γ : Gam) (v0 v1 v2 v3 v4 v5 v6 v7 v8 v9 v10 v11 v12 v13 v14 v15 v16 v17 v18 v19 : V), Go.Abs.step P tabs e ow Γ f l [v0, v1, v2, v3, v4, v5, v6, v7, v8, v9, v10, v11, v12, v13, v14, v15, v16, v17, v18, v19] = a Γ v0 v1 v2 v3 v4 v5 v6 v7 v8 v9 v10 v11 v12 v13 v14 v15 v16 v17 v18 v19) (e : Nat → List V → Option V) (Γ : Gam) (xs : List V) (r : V) (hr : ar20 a Γ xs = some r) : Go.Abs.step P tabs e ow Γ f l xs = some r := by
  unfold ar20 at hr
  split at hr
  · rw [h]; exact hr
  · cases hr
def ar21 (a : Gam → V → V → V → V → V → V → V → V → V → V → V → V → V → V → V → V → V → V → V → V → V → Option V) : Gam → List V → Option V := fun Γ xs => match xs with | [v0, v1, v2, v3, v4, v5, v6, v7, v8, v9, v10, v11, v12, v13, v14, v15, v16, v17, v18, v19, v20] => a Γ v0 v1 v2 v3 v4 v5 v6 v7 v8 v9 v10 v11 v12 v13 v14 v15 v16 v17 v18 v19 v20 | _ => none
theorem ok21 {a : Gam → V → V → V → V → V → V → V → V → V → V → V → V → V → V → V → V → V → V → V → V → V → Option V} (h : ∀ (e : Nat → List V → Option V) (Γ : Gam) (v0 v1 v2 v3 v4 v5 v6 v7 v8 v9 v10 v11 v12 v13 v14 v15 v16 v17 v18 v19 v20 : V), Go.Abs.step P tabs e ow Γ f l [v0, v1, v2, v3, v4, v5, v6, v7, v8, v9, v10, v11, v12, v13, v14, v15, v16, v17, v18, v19, v20] = a Γ v0 v1 v2 v3 v4 v5 v6 v7 v8 v9 v10 v11 v12 v13 v14 v15 v16 v17 v18 v19 v20) (e : Nat → List V → Option V) (Γ : Gam) (xs : List V) (r : V) (hr : ar21 a Γ xs = some r) : Go.Abs.step P tabs e ow Γ f l xs = some r := by
  unfold ar21 at hr
  split at hr
  · rw [h]; exact hr
  · cases hr
def ar22 (a : Gam → V → V → V → V → V → V → V → V → V → V → V → V → V → V → V → V → V → V → V → V → V → V → Option V) : Gam → List V → Option V := fun Γ xs => match xs with | [v0, v1, v2, v3, v4, v5, v6, v7, v8, v9, v10, v11, v12, v13, v14, v15, v16, v17, v18, v19, v20, v21] => a Γ v0 v1 v2 v3 v4 v5 v6 v7 v8 v9 v10 v11 v12 v13 v14 v15 v16 v17 v18 v19 v20 v21 | _ => none
theorem ok22 {a : Gam → V → V → V → V → V → V → V → V → V → V → V → V → V → V → V → V → V → V → V → V → V → V → Option V} (h : ∀ (e : Nat → List V → Option V) (Γ : Gam) (v0 v1 v2 v3 v4 v5 v6 v7 v8 v9 v10 v11 v12 v13 v14 v15 v16 v17 v18 v19 v20 v21 : V), Go.Abs.step P tabs e ow Γ f l [v0, v1, v2, v3, v4, v5, v6, v7, v8, v9, v10, v11, v12, v13, v14, v15, v16, v17, v18, v19, v20, v21] = a Γ v0 v1 v2 v3 v4 v5 v6 v7 v8 v9 v10 v11 v12 v13 v14 v15 v16 v17 v18 v19 v20 v21) (e : Nat → List V → Option V) (Γ : Gam) (xs : List V) (r : V) (hr : ar22 a Γ xs = some r) : Go.Abs.step P tabs e ow Γ f l xs = some r := by
  unfold ar22 at hr
  split at hr
  · rw [h]; exact hr
  · cases hr
def ar23 (a : Gam → V → V → V → V → V → V → V → V → V → V → V → V → V → V → V → V → V → V → V → V → V → V → V → Option V) : Gam → List V → Option V := fun Γ xs => match xs with | [v0, v1, v2, v3, v4, v5, v6, v7, v8, v9, v10, v11, v12, v13, v14, v15, v16, v17, v18, v19, v20, v21, v22] => a Γ v0 v1 v2 v3 v4 v5 v6 v7 v8 v9 v10 v11 v12 v13 v14 v15 v16 v17 v18 v19 v20 v21 v22 | _ => none
theorem ok23 {a : Gam → V → V → V → V → V → V → V → V → V → V → V → V → V → V → V → V → V → V → V → V → V → V → V → Option V} (h : ∀ (e : Nat → List V → Option V) (Γ : Gam) (v0 v1 v2 v3 v4 v5 v6 v7 v8 v9 v10 v11 v12 v13 v14 v15 v16 v17 v18 v19 v20 v21 v22 : V), Go.Abs.step P tabs e ow Γ f l [v0, v1, v2, v3, v4, v5, v6, v7, v8, v9, v10, v11, v12, v13, v14, v15, v16, v17, v18, v19, v20, v21, v22] = a Γ v0 v1 v2 v3 v4 v5 v6 v7 v8 v9 v10 v11 v12 v13 v14 v15 v16 v17 v18 v19 v20 v21 v22) (e : Nat → List V → Option V) (Γ : Gam) (xs : List V) (r : V) (hr : ar23 a Γ xs = some r) : Go.Abs.step P tabs e ow Γ f l xs = some r := by
  unfold ar23 at hr
  split at hr
  · rw [h]; exact hr
  · cases hr
def ar24 (a : Gam → V → V → V → V → V → V → V → V → V → V → V → V → V → V → V → V → V → V → V → V → V → V → V → V → Option V) : Gam → List V → Option V := fun Γ xs => match xs with | [v0, v1, v2, v3, v4, v5, v6, v7, v8, v9, v10, v11, v12, v13, v14, v15, v16, v17, v18, v19, v20, v21, v22, v23] => a Γ v0 v1 v2 v3 v4 v5 v6 v7 v8 v9 v10 v11 v12 v13 v14 v15 v16 v17 v18 v19 v20 v21 v22 v23 | _ => none
theorem ok24 {a : Gam → V → V → V → V → V → V → V → V → V → V → V → V → V → V → V → V → V → V → V → V → V → V → V → V → Option V} (h : ∀ (e : Nat → List V → Option V) (Γ : Gam) (v0 v1 v2 v3 v4 v5 v6 v7 v8 v9 v10 v11 v12 v13 v14 v15 v16 v17 v18 v19 v20 v21 v22 v23 : V), Go.Abs.step P tabs e ow Γ f l [v0, v1, v2, v3, v4, v5, v6, v7, v8, v9, v10, v11, v12, v13, v14, v15, v16, v17, v18, v19, v20, v21, v22, v23] = a Γ v0 v1 v2 v3 v4 v5 v6 v7 v8 v9 v10 v11 v12 v13 v14 v15 v16 v17 v18 v19 v20 v21 v22 v23) (e : Nat → List V → Option V) (Γ : Gam) (xs : List V) (r : V) (hr : ar24 a Γ xs = some r) : Go.Abs.step P tabs e ow Γ f l xs = some r := by
  unfold ar24 at hr
  split at hr
  · rw [h]; exact hr
  · cases hr
end
def look (f l : Nat) : List (Ent P tabs ow) → Option (Ent P tabs ow)
  | [] => none
  | q :: r => match Nat.beq q.f f && Nat.beq q.l l with | true => some q | false => look f l r
theorem look_ok {f l : Nat} : ∀ {T : List (Ent P tabs ow)} {q : Ent P tabs ow}, look f l T = some q → q.f = f ∧ q.l = l
  | [], _, h => by cases h
  | p :: r, q, h => by
    unfold look at h
    split at h
    · rename_i hb
      cases h
      simp only [Bool.and_eq_true] at hb
      exact ⟨Nat.eq_of_beq_eq_true hb.1, Nat.eq_of_beq_eq_true hb.2⟩
    · exact look_ok h
def runY (T : List (Ent P tabs ow)) (e0 : Nat → List V → Option V) : Nat → Gam
  | 0 => fun _ _ _ => none
  | n + 1 => fun f l xs => match look f l T with
    | some q => q.g (runY T e0 n) xs
    | none => match l with | 0 => e0 f xs | _ + 1 => none
theorem run_ok {T : List (Ent P tabs ow)} {e0 e : Nat → List V → Option V} (h0 : ∀ f xs r, e0 f xs = some r → val P tabs e ow f 0 xs = some r) : ∀ n, Le (runY T e0 n) (val P tabs e ow)
  | 0 => fun _ _ _ _ h => by cases h
  | n + 1 => fun f l xs r h => by
    unfold runY at h
    split at h
    · rename_i q hq
      obtain ⟨rfl, rfl⟩ := look_ok hq
      have h1 := q.ok e _ xs r h
      rw [val_step]
      exact step_mono (run_ok h0 n) _ _ _ _ h1
    · split at h
      · exact h0 _ _ _ h
      · cases h
theorem run_eq {T : List (Ent P tabs ow)} {e0 e : Nat → List V → Option V} (h0 : ∀ f xs r, e0 f xs = some r → val P tabs e ow f 0 xs = some r) (n : Nat) {f l : Nat} {xs : List V} {r : V} (h : runY T e0 n f l xs = some r) : val P tabs e ow f l xs = some r := run_ok h0 n f l xs r h
end Go.Abs
/-
  The functions of the program in a table, for computation. Printed by programs of this seat.
-/
namespace Go.Proofs.YtanocopjancaiaaDoor
open Go.Abs
noncomputable def ents0 : List (Ent Tryd.prog tabs cfg) := [
  ⟨4, 0, ar5 y.seichelaw17_ModfileMakes, ok5 s.seichelaw17_ModfileMakes⟩,
  ⟨4, 15, ar6 y.seichelaw17_ModfileMakes_15, ok6 s.seichelaw17_ModfileMakes_15⟩,
  ⟨4, 26, ar7 y.seichelaw17_ModfileMakes_26, ok7 s.seichelaw17_ModfileMakes_26⟩,
  ⟨4, 37, ar6 y.seichelaw17_ModfileMakes_37, ok6 s.seichelaw17_ModfileMakes_37⟩,
  ⟨4, 47, ar8 y.seichelaw17_ModfileMakes_47, ok8 s.seichelaw17_ModfileMakes_47⟩,
  ⟨4, 51, ar11 y.seichelaw17_ModfileMakes_51, ok11 s.seichelaw17_ModfileMakes_51⟩,
  ⟨4, 74, ar14 y.seichelaw17_ModfileMakes_74, ok14 s.seichelaw17_ModfileMakes_74⟩,
  ⟨6, 0, ar0 y.seichelaw17_alive, ok0 s.seichelaw17_alive⟩,
  ⟨8, 0, ar1 y.modfile_Parse, ok1 s.modfile_Parse⟩,
  ⟨8, 12, ar14 y.modfile_Parse_12, ok14 s.modfile_Parse_12⟩,
  ⟨10, 0, ar1 y.seichelaw17_word, ok1 s.seichelaw17_word⟩,
  ⟨10, 8, ar2 y.seichelaw17_word_8, ok2 s.seichelaw17_word_8⟩,
  ⟨16, 0, ar1 y.seiche_modfile_reader_line_1, ok1 s.seiche_modfile_reader_line_1⟩,
  ⟨18, 0, ar2 y.slices_Contains_Lstring_string, ok2 s.slices_Contains_Lstring_string⟩,
  ⟨22, 0, ar1 y.modfile_good, ok1 s.modfile_good⟩,
  ⟨36, 0, ar1 y.modfile_here, ok1 s.modfile_here⟩,
  ⟨46, 0, ar2 y.strings_HasPrefix, ok2 s.strings_HasPrefix⟩,
  ⟨58, 0, ar2 y.internal_stringslite_HasPrefix, ok2 s.internal_stringslite_HasPrefix⟩,
  ⟨3, 0, ar2 y.seichelaw17_ModfileBlank, ok2 s.seichelaw17_ModfileBlank⟩,
  ⟨3, 15, ar3 y.seichelaw17_ModfileBlank_15, ok3 s.seichelaw17_ModfileBlank_15⟩,
  ⟨3, 24, ar3 y.seichelaw17_ModfileBlank_24, ok3 s.seichelaw17_ModfileBlank_24⟩,
  ⟨3, 47, ar6 y.seichelaw17_ModfileBlank_47, ok6 s.seichelaw17_ModfileBlank_47⟩,
  ⟨5, 0, ar4 y.seichelaw17_ModfileOrder, ok4 s.seichelaw17_ModfileOrder⟩,
  ⟨5, 15, ar5 y.seichelaw17_ModfileOrder_15, ok5 s.seichelaw17_ModfileOrder_15⟩,
  ⟨5, 28, ar10 y.seichelaw17_ModfileOrder_28, ok10 s.seichelaw17_ModfileOrder_28⟩,
  ⟨5, 51, ar13 y.seichelaw17_ModfileOrder_51, ok13 s.seichelaw17_ModfileOrder_51⟩,
  ⟨5, 76, ar8 y.seichelaw17_ModfileOrder_76, ok8 s.seichelaw17_ModfileOrder_76⟩,
  ⟨7, 0, ar2 y.seicheref14_Cut, ok2 s.seicheref14_Cut⟩,
  ⟨7, 12, ar5 y.seicheref14_Cut_12, ok5 s.seicheref14_Cut_12⟩,
  ⟨9, 0, ar2 y.seicheref17_Same, ok2 s.seicheref17_Same⟩]
noncomputable def ents1 : List (Ent Tryd.prog tabs cfg) := [
  ⟨9, 7, ar3 y.seicheref17_Same_7, ok3 s.seicheref17_Same_7⟩,
  ⟨9, 16, ar4 y.seicheref17_Same_16, ok4 s.seicheref17_Same_16⟩,
  ⟨23, 0, ar1 y.modfile_level, ok1 s.modfile_level⟩,
  ⟨23, 9, ar2 y.modfile_level_9, ok2 s.modfile_level_9⟩,
  ⟨23, 18, ar4 y.modfile_level_18, ok4 s.modfile_level_18⟩,
  ⟨25, 0, ar2 y.slices_Index_Lstring_string, ok2 s.slices_Index_Lstring_string⟩,
  ⟨25, 8, ar4 y.slices_Index_Lstring_string_8, ok4 s.slices_Index_Lstring_string_8⟩,
  ⟨10192, 1, ar7 y.seiche_modfile_reader_line_h0, ok7 s.seiche_modfile_reader_line_h0⟩,
  ⟨10192, 12, ar7 y.seiche_modfile_reader_line_h0_12, ok7 s.seiche_modfile_reader_line_h0_12⟩,
  ⟨10192, 24, ar8 y.seiche_modfile_reader_line_h0_24, ok8 s.seiche_modfile_reader_line_h0_24⟩,
  ⟨10272, 1, ar8 y.seiche_modfile_reader_verb_h0, ok8 s.seiche_modfile_reader_verb_h0⟩,
  ⟨10384, 1, ar7 y.seiche_modfile_reader_replace_h0, ok7 s.seiche_modfile_reader_replace_h0⟩,
  ⟨10384, 11, ar9 y.seiche_modfile_reader_replace_h0_11, ok9 s.seiche_modfile_reader_replace_h0_11⟩,
  ⟨10592, 1, ar2 y.slices_ContainsFunc_Lseiche_api_Replace_seiche_api_Replace_h0, ok2 s.slices_ContainsFunc_Lseiche_api_Replace_seiche_api_Replace_h0⟩,
  ⟨10752, 1, ar2 y.slices_IndexFunc_Lseiche_api_Replace_seiche_api_Replace_h0, ok2 s.slices_IndexFunc_Lseiche_api_Replace_seiche_api_Replace_h0⟩,
  ⟨10752, 8, ar4 y.slices_IndexFunc_Lseiche_api_Replace_seiche_api_Replace_h0_8, ok4 s.slices_IndexFunc_Lseiche_api_Replace_seiche_api_Replace_h0_8⟩,
  ⟨10608, 1, ar2 y.seiche_modfile_reader_replace_1_h0, ok2 s.seiche_modfile_reader_replace_1_h0⟩]
noncomputable def ents : List (Ent Tryd.prog tabs cfg) := ents0 ++ ents1
end Go.Proofs.YtanocopjancaiaaDoor
/-
  V3: the reader of go.mod: lines, the whole file. Own work of this seat.
-/
namespace Go.Proofs.YtanocopjancaiaaDoor
open Go.Abs
set_option maxRecDepth 10000
variable {e : Nat → List V → Option V}
def words3 : List Bytes := [[114, 101, 113, 117, 105, 114, 101], [101, 120, 99, 108, 117, 100, 101], [114, 101, 116, 114, 97, 99, 116], [114, 101, 112, 108, 97, 99, 101]]
def lineB (ws : List Bytes) (m : MSt) : Bool × MSt :=
  match ws with
  | [] => (true, m)
  | x :: q =>
    if m.block ≠ [] then (if x = [41] then (decide (q = []), { m with block := [] }) else verbB m.block ws m)
    else if q = [[40]] then (inB words3 x, { m with block := x })
    else verbB x q m
theorem lineB_cons (x : Bytes) (q : List Bytes) (m : MSt) : lineB (x :: q) m = if m.block ≠ [] then (if x = [41] then (decide (q = []), { m with block := [] }) else verbB m.block (x :: q) m)
    else if q = [[40]] then (inB words3 x, { m with block := x }) else verbB x q m := rfl
theorem v_dropW {x : Bytes} {q : List Bytes} : evp (.slc 1 true false false) [strs (x :: q), .int .i64 1] = some (strs q) := by
  rw [strs, List.map_cons]; exact v_slcD (l := .str x :: q.map .str) (i := 1) (by simp)
theorem v.line24 (he : EnvM e) (m : MSt) (x : Bytes) (q : List Bytes) (hl : (x :: q).length ≤ 1000000) (hr : m.reps.length ≤ 1000000) (hb : ∀ y ∈ x :: q, y.length < 4294967281 ∧ okC y = true) :
    vl e 10192 24 [strs (x :: q), .bool (decide (m.block ≠ []) && decide (x = [41])), .str m.path, I m.level, rps m.reps, I 0, .str m.block, .bool m.gone] = some (outV (lineB (x :: q) m)) := by
  rw [w.seiche_modfile_reader_line_h0_24]; unfold y.seiche_modfile_reader_line_h0_24
  rw [lineB_cons]
  have hv := fun b (ws : List Bytes) (h1 : ws.length ≤ 1000000) (h2 : ∀ y ∈ ws, y.length < 4294967281 ∧ okC y = true) => v.verb he m b ws h1 hr h2
  have g0 : evp (.elem 1) [strs (x :: q), .int .i64 0] = some (.str x) := v_get0
  by_cases h1 : m.block = []
  · have e1 : (decide (m.block ≠ []) && decide (x = [41])) = false := by simp [h1]
    rw [e1, if_neg (fun h => h h1)]
    have hvq : vl e 10272 1 [.str x, strs q, .str m.path, I m.level, rps m.reps, I 0, .str m.block, .bool m.gone] = _ := hv x q (by simp at hl; omega) (fun y hy => hb y (by simp [hy]))
    by_cases h2 : ((x :: q).length : Int) = 2
    · obtain ⟨z, rfl⟩ : ∃ z, q = [z] := by
        match q, h2 with
        | [z], _ => exact ⟨z, rfl⟩
        | [], h => simp at h
        | _ :: _ :: _, h => simp at h; omega
      have g1 : evp (.elem 1) [strs [x, z], .int .i64 1] = some (.str z) := v_get (l := [x, z]) (i := 1) (by simp)
      by_cases h3 : z = [40]
      · subst h3
        have hc := v.Contains (e := e) words3 x (by decide)
        have hbs : evp (.bsl 1) [.str [114, 101, 113, 117, 105, 114, 101], .str [101, 120, 99, 108, 117, 100, 101], .str [114, 101, 116, 114, 97, 99, 116], .str [114, 101, 112, 108, 97, 99, 101]] = some (strs words3) := rfl
        have hsc : evp .sc [.str x] = some (.str x) := rfl
        simp only [yy, h1, if_true, v_lenS, if_pos h2, g1, v_lds, g0, hsc, hbs, hc]
        rfl
      · simp only [yy, h1, if_true, v_lenS, if_pos h2, g1, v_lds, if_neg h3, g0, v_dropW]
        rw [if_neg (by simpa using h3)]
        rw [h1] at hvq
        simp only [yy, hvq, outV]
    · have h3 : q ≠ [[40]] := fun h => h2 (by rw [h]; rfl)
      rw [h1] at hvq
      simp only [yy, h1, if_true, v_lenS, if_neg h2, g0, v_lds, v_dropW, hvq, outV]
      rw [if_neg h3]
  · rw [if_pos h1]
    by_cases h2 : x = [41]
    · have e1 : (decide (m.block ≠ []) && decide (x = [41])) = true := by simp [h1, h2]
      rw [e1, if_pos h2]
      simp only [yy, v_lenS]
      have : decide (((x :: q).length : Int) = 1) = decide (q = []) := by
        rw [decide_eq_decide]
        constructor
        · intro h; exact List.eq_nil_of_length_eq_zero (by simp at h; omega)
        · intro h; rw [h]; rfl
      rw [this]; rfl
    · have e1 : (decide (m.block ≠ []) && decide (x = [41])) = false := by simp [h2]
      have hvq : vl e 10272 1 [.str m.block, strs (x :: q), .str m.path, I m.level, rps m.reps, I 0, .str m.block, .bool m.gone] = _ := hv m.block (x :: q) hl hb
      rw [e1, if_neg h2]
      simp only [yy, if_neg h1, hvq, outV]
theorem v.line12 (he : EnvM e) (m : MSt) (s : Bytes) (hs : s.length < 4294967281) (hl : (fldB blankB3 s []).length ≤ 1000000) (hr : m.reps.length ≤ 1000000) (hb : ∀ y ∈ fldB blankB3 s [], y.length < 4294967281 ∧ okC y = true) :
    vl e 10192 12 (.str s :: mV m) = some (outV (lineB (fldB blankB3 s []) m)) := by
  show vl e 10192 12 [.str s, .str m.path, I m.level, rps m.reps, I 0, .str m.block, .bool m.gone] = _
  rw [w.seiche_modfile_reader_line_h0_12]; unfold y.seiche_modfile_reader_line_h0_12
  have hf : vl e 15 0 [.str s, .fn 16 []] = _ := v.fields he s hs
  generalize fldB blankB3 s [] = ws at hf hl hb ⊢
  cases ws with
  | nil => simp only [yy, hf, strs, List.map_nil, List.length_nil, Int.natCast_zero, if_true]; rfl
  | cons x q =>
    have h24 := v.line24 he m x q hl hr hb
    have g0 : evp (.elem 1) [strs (x :: q), .int .i64 0] = some (.str x) := v_get0
    by_cases h1 : m.block = []
    · have e1 : (decide (m.block ≠ []) && decide (x = [41])) = false := by simp [h1]
      rw [e1] at h24
      simp only [yy, hf, v_lenS, if_neg (show ¬ (((x :: q).length : Int) = 0) by simp), if_pos h1, h24]
    · have e1 : (decide (m.block ≠ []) && decide (x = [41])) = decide (x = [41]) := by simp [h1]
      rw [e1] at h24
      simp only [yy, hf, v_lenS, if_neg (show ¬ (((x :: q).length : Int) = 0) by simp), if_neg h1, g0, v_lds, h24]
/-- without what stands behind a // -/
def cutI (s : Bytes) : Bytes := if 0 ≤ Lib.index s [47, 47] then s.take (Lib.index s [47, 47]).toNat else s
def wordsOf (s : Bytes) : List Bytes := fldB blankB3 (cutI s) []
theorem fld_len {q : UInt8 → Bool} : ∀ (s cur : Bytes), (fldB q s cur).length ≤ s.length + 1 ∧ ∀ x ∈ fldB q s cur, x.length ≤ cur.length + s.length
  | [], cur => by
    unfold fldB
    split
    · exact ⟨by simp, fun x hx => by cases hx⟩
    · exact ⟨by simp, fun x hx => by simp at hx; simp [hx]⟩
  | b :: r, cur => by
    unfold fldB
    split
    · obtain ⟨h1, h2⟩ := fld_len (q := q) r ([] : Bytes)
      split
      · exact ⟨by simp; omega, fun x hx => by have := h2 x hx; simp at this ⊢; omega⟩
      · refine ⟨by simp; omega, fun x hx => ?_⟩
        rcases List.mem_cons.1 hx with rfl | hx
        · simp
        · have := h2 x hx; simp at this ⊢; omega
    · obtain ⟨h1, h2⟩ := fld_len (q := q) r (cur ++ [b])
      exact ⟨by simp; omega, fun x hx => by have := h2 x hx; simp at this ⊢; omega⟩
theorem cutI_len (s : Bytes) : (cutI s).length ≤ s.length := by
  unfold cutI; split
  · simp; omega
  · exact Nat.le_refl _
theorem index_lt (c : Bytes) (hc : c ≠ []) : ∀ s : Bytes, Lib.index s c < s.length ∨ Lib.index s c = -1
  | [] => by
    right
    cases c with
    | nil => exact absurd rfl hc
    | cons x r => simp [Lib.index]
  | b :: r => by
    have ih := index_lt c hc r
    have hge := Lib.index_ge r c
    unfold Lib.index
    split
    · left; simp only [List.length_cons]; omega
    · split
      · right; rfl
      · rename_i h
        have : Lib.index r c ≠ -1 := by simpa using h
        left; simp; omega
theorem v.line (he : EnvM e) (m : MSt) (s : Bytes) (hs : s.length ≤ 999999) (hr : m.reps.length ≤ 1000000) (hb : ∀ y ∈ wordsOf s, okC y = true) :
    vl e 10192 1 (.str s :: mV m) = some (outV (lineB (wordsOf s) m)) := by
  show vl e 10192 1 [.str s, .str m.path, I m.level, rps m.reps, I 0, .str m.block, .bool m.gone] = _
  rw [w.seiche_modfile_reader_line_h0]; unfold y.seiche_modfile_reader_line_h0
  have hix := v.index he s [47, 47] (by omega)
  have hcl := cutI_len s
  obtain ⟨f1, f2⟩ := fld_len (q := blankB3) (cutI s) []
  have h12 := v.line12 he m (cutI s) (by omega) (by omega) hr (fun y hy => ⟨by have := f2 y hy; simp at this; omega, hb y hy⟩)
  have hge := Lib.index_ge s [47, 47]
  have hlt := index_lt [47, 47] (by simp) s
  unfold wordsOf cutI at *
  generalize Lib.index s [47, 47] = a at *
  by_cases h0 : 0 ≤ a
  · rw [if_pos h0] at h12
    have hsl : evp (.sls false true) [.str s, .int .i64 a] = some (.str (s.take a.toNat)) := by
      have := v_sls0 (s := s) (h := a.toNat) (by omega)
      rw [Int.toNat_of_nonneg h0] at this; exact this
    simp only [yy, hix, if_pos h0, hsl]
    exact h12
  · rw [if_neg h0] at h12
    simp only [yy, hix, if_neg h0]
    exact h12

/-! ## the whole -/
structure MRes where
  path : Bytes
  level : Int
  reps : List (Bytes × Bytes)
  fault : Int
abbrev resM (r : MRes) : V := .agg [.str r.path, I r.level, rps r.reps, I r.fault]
def m0 : MSt := ⟨[], 0, [], [], false⟩
def goM (n : Nat) : List (List Bytes) → Nat → MSt → MRes
  | [], _, m => if m.block ≠ [] ∨ m.path = [] then ⟨[], 0, [], n⟩ else ⟨m.path, m.level, m.reps, 0⟩
  | w :: r, i, m => if (lineB w m).1 = true then goM n r (i + 1) (lineB w m).2 else ⟨[], 0, [], ((i + 1 : Nat) : Int)⟩
theorem reps_line (ws : List Bytes) (m : MSt) : (lineB ws m).2.reps.length ≤ m.reps.length + 1 := by
  have hv : ∀ b q, (verbB b q m).2.reps.length ≤ m.reps.length + 1 := by
    intro b q
    unfold verbB
    have hr : (repB q m).2.reps.length ≤ m.reps.length + 1 := by
      unfold repB
      dsimp only
      split
      · simp
      · split
        · simp
        · split
          · simp
          · split <;> simp
    repeat' split
    all_goals first | exact hr | simp
  unfold lineB
  split
  · simp
  · split
    · split
      · simp
      · exact hv _ _
    · split
      · simp
      · exact hv _ _
theorem v.parse12 (he : EnvM e) (ls : List Bytes) (a b c d : V) (hl : ls.length ≤ 900000) (hs : ∀ s ∈ ls, s.length ≤ 999999 ∧ ∀ y ∈ wordsOf s, okC y = true) : ∀ (n i : Nat) (m : MSt), i + n = ls.length → m.reps.length ≤ i →
    vl e 8 12 ([strs ls, strs ls, I ls.length, I i, a, b, c, d] ++ mV m) = some (resM (goM ls.length ((ls.drop i).map wordsOf) i m)) := by
  intro n
  induction n with
  | zero =>
    intro i m hi hr
    show vl e 8 12 [strs ls, strs ls, I ls.length, I i, a, b, c, d, .str m.path, I m.level, rps m.reps, I 0, .str m.block, .bool m.gone] = _
    rw [w.modfile_Parse_12]; unfold y.modfile_Parse_12
    rw [List.drop_eq_nil_of_le (by omega), List.map_nil, goM]
    have c1 : ∀ n : Int, evp (.cat [none]) [I n] = some (.agg [I n]) := fun _ => rfl
    have c4 : ∀ n : Int, evp (.cat [none, none, none, none]) [.str [], .int .i64 0, .sl false 2 [], I n] = some (resM ⟨[], 0, [], n⟩) := fun _ => rfl
    have c5 : evp (.cat [none, none, none, none]) [.str m.path, I m.level, rps m.reps, I 0] = some (resM ⟨m.path, m.level, m.reps, 0⟩) := rfl
    by_cases h1 : m.block = []
    · by_cases h2 : m.path = []
      · simp only [yy, if_neg (show ¬ ((i : Int) < (ls.length : Int)) by omega), if_pos h1, if_pos h2, v_lenS, c1, c4]
        rw [if_pos (.inr h2)]
      · simp only [yy, if_neg (show ¬ ((i : Int) < (ls.length : Int)) by omega), if_pos h1, if_neg h2, c5]
        rw [if_neg (by rintro (h | h); exact h h1; exact h2 h)]
    · simp only [yy, if_neg (show ¬ ((i : Int) < (ls.length : Int)) by omega), if_neg h1, v_lenS, c1, c4]
      rw [if_pos (.inl h1)]
  | succ n ih =>
    intro i m hi hr
    have hlt : i < ls.length := by omega
    show vl e 8 12 [strs ls, strs ls, I ls.length, I i, a, b, c, d, .str m.path, I m.level, rps m.reps, I 0, .str m.block, .bool m.gone] = _
    obtain ⟨q1, q2⟩ := hs ls[i] (List.getElem_mem hlt)
    have hln : vl e 10192 1 [.str ls[i], .str m.path, I m.level, rps m.reps, I 0, .str m.block, .bool m.gone] = _ := v.line he m ls[i] q1 (by omega) q2
    rw [w.modfile_Parse_12]; unfold y.modfile_Parse_12
    rw [List.drop_eq_getElem_cons hlt, List.map_cons, goM]
    have hrl := reps_line (wordsOf ls[i]) m
    have hih := ih (i + 1) (lineB (wordsOf ls[i]) m).2 (by omega) (by omega)
    generalize lineB (wordsOf ls[i]) m = r at hln hih
    obtain ⟨ok, m'⟩ := r
    have c1 : ∀ n : Int, evp (.cat [none]) [I n] = some (.agg [I n]) := fun _ => rfl
    have c4 : ∀ n : Int, evp (.cat [none, none, none, none]) [.str [], .int .i64 0, .sl false 2 [], I n] = some (resM ⟨[], 0, [], n⟩) := fun _ => rfl
    simp only [yy, if_pos (show (i : Int) < (ls.length : Int) by omega), v_get hlt, v_lds, hln, outV, next64 hlt (by omega), c1, c4]
    cases ok with
    | true => rw [if_pos rfl]; exact hih
    | false => rw [if_neg (by decide)]; rfl
def parseM (s : Bytes) : MRes := goM (splitOn 10 s).length ((splitOn 10 s).map wordsOf) 0 m0
theorem v.Parse (he : EnvM e) (s : Bytes) (hs : s.length ≤ 899998) (hb : ∀ x ∈ splitOn 10 s, ∀ y ∈ wordsOf x, okC y = true) : vl e 8 0 [.str s] = some (resM (parseM s)) := by
  rw [w.modfile_Parse]; unfold y.modfile_Parse
  have hn := splitOn_num 10 s
  have h12 := v.parse12 he (splitOn 10 s) (.str []) (I 0) (.sl false 2 []) (I 0) (by omega) (fun x hx => ⟨by have := splitOn_le 10 s x hx; omega, hb x hx⟩) (splitOn 10 s).length 0 m0 (by omega) (by simp [m0])
  have c0 : evp (.cat []) [] = some (.agg []) := rfl
  have c6 : evp (.cat [none, none, none, none, none, none]) [.str [], .int .i64 0, .sl false 2 [], .int .i64 0, .str [], .bool false] = some (.agg [.str [], I 0, .sl false 2 [], I 0, .str [], .bool false]) := rfl
  simp only [yy, c0, c6, v.split he s 10 (by omega), v_lenS]
  exact h12
end Go.Proofs.YtanocopjancaiaaDoor
/-
  V4: lines and words of texts that are put together. Own work of this seat.
-/
namespace Go.Proofs.YtanocopjancaiaaDoor
open Go.Abs
set_option maxRecDepth 10000
/-! ## lines -/
def unl : List Bytes → Bytes
  | [] => []
  | l :: r => l ++ 10 :: unl r
theorem unl_app : ∀ (a b : List Bytes), unl (a ++ b) = unl a ++ unl b
  | [], b => rfl
  | l :: r, b => by simp [unl, unl_app r b]
theorem split_app (c : UInt8) : ∀ (l r : Bytes), c ∉ l → splitOn c (l ++ c :: r) = l :: splitOn c r
  | [], r, _ => by simp [splitOn]
  | b :: l, r, h => by
    have ih := split_app c l r (fun h' => h (by simp [h']))
    have hb : ¬ b = c := fun h' => h (by simp [h'])
    rw [List.cons_append, splitOn, if_neg hb, ih]
theorem split_unl (x : Bytes) : ∀ ls : List Bytes, (∀ l ∈ ls, (10 : UInt8) ∉ l) → splitOn 10 (unl ls ++ x) = ls ++ splitOn 10 x
  | [], _ => rfl
  | l :: r, h => by
    have ih := split_unl x r (fun y hy => h y (by simp [hy]))
    rw [unl, List.append_assoc, List.cons_append, split_app 10 l _ (h l (by simp)), ih]; rfl
theorem split_one (c : UInt8) : ∀ l : Bytes, c ∉ l → splitOn c l = [l]
  | [], _ => rfl
  | b :: l, h => by
    have hb : ¬ b = c := fun h' => h (by simp [h'])
    rw [splitOn, if_neg hb, split_one c l (fun h' => h (by simp [h']))]
def runL : List Bytes → MSt → Option MSt
  | [], m => some m
  | l :: r, m => if (lineB (wordsOf l) m).1 = true then runL r (lineB (wordsOf l) m).2 else none
theorem runL_app : ∀ (a b : List Bytes) (m : MSt), runL (a ++ b) m = (runL a m).bind (runL b)
  | [], b, m => rfl
  | l :: r, b, m => by
    show (if _ then _ else _) = _
    rw [runL]
    split
    · exact runL_app r b _
    · rfl
theorem goM_run (n : Nat) (rest : List (List Bytes)) : ∀ (ls : List Bytes) (i : Nat) (m m' : MSt), runL ls m = some m' → goM n (ls.map wordsOf ++ rest) i m = goM n rest (i + ls.length) m'
  | [], i, m, m', h => by cases h; rfl
  | l :: r, i, m, m', h => by
    rw [runL] at h
    split at h
    · rename_i h1
      rw [List.map_cons, List.cons_append, goM, if_pos h1, goM_run n rest r (i + 1) _ m' h]
      simp only [List.length_cons]
      rw [show i + 1 + r.length = i + (r.length + 1) by omega]
    · cases h
theorem words_nil : wordsOf [] = [] := rfl
theorem parse_unl {ls : List Bytes} {m : MSt} (h10 : ∀ l ∈ ls, (10 : UInt8) ∉ l) (h : runL ls m0 = some m) (hb : m.block = []) (hp : m.path ≠ []) : parseM (unl ls) = ⟨m.path, m.level, m.reps, 0⟩ := by
  unfold parseM
  have hs := split_unl [] ls h10
  rw [List.append_nil] at hs
  rw [hs, List.map_append, goM_run _ _ ls 0 m0 m h]
  show goM _ [wordsOf []] _ m = _
  rw [words_nil, goM]
  rw [if_pos (by rfl)]
  show goM _ [] _ m = _
  rw [goM, if_neg (by rintro (h | h); exact h hb; exact hp h)]

/-! ## no // -/
def dbl : Bytes → Bool
  | [] => false
  | a :: r => (decide (a = 47) && decide (r.headD 0 = 47)) || dbl r
theorem index_dbl : ∀ s : Bytes, dbl s = false → Lib.index s [47, 47] = -1
  | [], _ => rfl
  | a :: r, h => by
    rw [dbl, Bool.or_eq_false_iff] at h
    have ih := index_dbl r h.2
    unfold Lib.index
    have hp : List.isPrefixOf [47, 47] (a :: r) = false := by
      cases r with
      | nil => simp [List.isPrefixOf]
      | cons b q =>
        have h1 := h.1
        simp only [List.headD_cons, Bool.and_eq_false_iff, decide_eq_false_iff_not] at h1
        simp only [List.isPrefixOf, Bool.and_true, Bool.and_eq_false_iff, beq_eq_false_iff_ne]
        rcases h1 with h1 | h1
        · exact .inl (Ne.symm h1)
        · exact .inr (fun h' => by rw [← h'] at h1; simp at h1)
    simp only [hp, Bool.false_eq_true, if_false, ih]
    rfl
theorem dbl_app : ∀ (a b : Bytes), b.headD 0 ≠ 47 → dbl (a ++ b) = (dbl a || dbl b)
  | [], b, _ => by simp [dbl]
  | x :: a, b, h => by
    have ih := dbl_app a b h
    rw [List.cons_append, dbl, dbl, ih]
    cases a with
    | nil =>
      have h1 : decide (b.headD 0 = 47) = false := decide_eq_false h
      rw [List.nil_append, h1]; simp
    | cons y a => simp [Bool.or_assoc]
theorem cut_id {s : Bytes} (h : dbl s = false) : cutI s = s := by
  unfold cutI
  rw [index_dbl s h, if_neg (by decide)]

/-! ## words -/
theorem fld_w (q : UInt8 → Bool) (w : Bytes) (hw : ∀ c ∈ w, q c = false) (hne : w ≠ []) (b : UInt8) (hb : q b = true) (r : Bytes) : fldB q (w ++ b :: r) [] = w :: fldB q r [] := by
  rw [fld_run hw, List.nil_append, fldB, if_pos hb, if_neg hne]
theorem fld_e (q : UInt8 → Bool) (w : Bytes) (hw : ∀ c ∈ w, q c = false) (hne : w ≠ []) : fldB q w [] = [w] := by
  have := fld_run (r := []) (cur := []) hw
  rw [List.append_nil, List.nil_append] at this
  rw [this, fldB, if_neg hne]
theorem fld_b (q : UInt8 → Bool) (b : UInt8) (hb : q b = true) (r : Bytes) : fldB q (b :: r) [] = fldB q r [] := by
  rw [fldB, if_pos hb, if_pos rfl]
theorem fld_mem {q : UInt8 → Bool} : ∀ (s cur : Bytes), ∀ y ∈ fldB q s cur, ∀ b ∈ y, b ∈ cur ∨ b ∈ s
  | [], cur, y, hy, b, hb => by
    unfold fldB at hy
    split at hy
    · cases hy
    · simp at hy; subst hy; exact .inl hb
  | c :: r, cur, y, hy, b, hb => by
    unfold fldB at hy
    split at hy
    · split at hy
      · rcases fld_mem r [] y hy b hb with h | h
        · cases h
        · exact .inr (by simp [h])
      · rcases List.mem_cons.1 hy with rfl | hy
        · exact .inl hb
        · rcases fld_mem r [] y hy b hb with h | h
          · cases h
          · exact .inr (by simp [h])
    · rcases fld_mem r (cur ++ [c]) y hy b hb with h | h
      · rcases List.mem_append.1 h with h | h
        · exact .inl h
        · exact .inr (by simp at h; simp [h])
      · exact .inr (by simp [h])
theorem split_mem (c : UInt8) : ∀ (s : Bytes), ∀ x ∈ splitOn c s, ∀ b ∈ x, b ∈ s
  | [], x, hx, b, hb => by simp [splitOn] at hx; subst hx; exact hb
  | a :: r, x, hx, b, hb => by
    unfold splitOn at hx
    split at hx
    · rcases List.mem_cons.1 hx with rfl | hx
      · cases hb
      · exact List.mem_cons_of_mem _ (split_mem c r x hx b hb)
    · split at hx
      · simp at hx; subst hx; simp at hb; simp [hb]
      · rename_i z zs he
        rcases List.mem_cons.1 hx with rfl | hx
        · rcases List.mem_cons.1 hb with rfl | hb
          · simp
          · exact List.mem_cons_of_mem _ (split_mem c r z (by rw [he]; simp) b hb)
        · exact List.mem_cons_of_mem _ (split_mem c r x (by rw [he]; simp [hx]) b hb)
theorem ok_text {s : Bytes} (h : ascB s = true) : ∀ x ∈ splitOn 10 s, ∀ y ∈ wordsOf x, okC y = true := by
  intro x hx y hy
  unfold okC ascB
  rw [List.all_eq_true]
  intro b hb
  have h1 : b ∈ cutI x := by
    rcases fld_mem (cutI x) [] y hy b hb with h | h
    · cases h
    · exact h
  have h2 : b ∈ x := by
    unfold cutI at h1
    split at h1
    · exact List.mem_of_mem_take h1
    · exact h1
  exact List.all_eq_true.1 h b (split_mem 10 s x hx b h2)
theorem asc_app (a b : Bytes) : ascB (a ++ b) = (ascB a && ascB b) := by unfold ascB; rw [List.all_append]
end Go.Proofs.YtanocopjancaiaaDoor
/-
  V5: words of letters, digits, points and slashes; Same; what alive tells. Own work of this seat.
-/
namespace Go.Proofs.YtanocopjancaiaaDoor
open Go.Abs
set_option maxRecDepth 10000
variable {e : Nat → List V → Option V}
def al (c : Nat) : Bool := (decide (97 ≤ c) && decide (c ≤ 122)) || ((decide (48 ≤ c) && decide (c ≤ 57)) || decide (c = 46))
/-- p: may a slash stand here? -/
def wordL : Bool → Bytes → Bool
  | _, [] => true
  | p, c :: r => if al c.toNat = true then wordL true r else if c.toNat = 47 then (if p = true then wordL false r else false) else false
def wordB (s : Bytes) : Bool := wordL false s && (decide (s ≠ []) && decide (s.length ≤ 100))
def mayB (s : Bytes) (i : Nat) : Bool := decide (0 < i) && decide (s.getD (i - 1) 0 ≠ 47)
theorem v.word8 (s : Bytes) (hs : s.length ≤ 1048576) : ∀ (n i : Nat), i + n = s.length → vl e 10 8 [.str s, I i] = some (.bool (wordL (mayB s i) (s.drop i) && (decide (s ≠ []) && decide (s.length ≤ 100)))) := by
  intro n
  induction n with
  | zero =>
    intro i hi
    rw [w.seichelaw17_word_8]; unfold y.seichelaw17_word_8
    rw [List.drop_eq_nil_of_le (by omega), wordL, Bool.true_and]
    by_cases h0 : s = []
    · simp only [yy, if_neg (show ¬ ((i : Int) < (s.length : Int)) by omega), if_pos h0]; simp [h0]
    · simp only [yy, if_neg (show ¬ ((i : Int) < (s.length : Int)) by omega), if_neg h0]
      have : decide ((s.length : Int) ≤ 100) = decide (s.length ≤ 100) := by rw [decide_eq_decide]; omega
      rw [this]; simp [h0]
  | succ n ih =>
    intro i hi
    have hlt : i < s.length := by omega
    have hih := ih (i + 1) (by omega)
    have hn := next64 hlt (by omega)
    rw [w.seichelaw17_word_8]; unfold y.seichelaw17_word_8
    rw [List.drop_eq_getElem_cons hlt]
    have hidx : evp .idx [.str s, .int .i64 (i : Int)] = some (.int .u8 (s[i].toNat : Int)) := v_idx (by simp [hlt])
    have hmay : mayB s (i + 1) = decide (s[i].toNat ≠ 47) := by
      unfold mayB
      rw [show i + 1 - 1 = i from rfl, List.getD, List.getElem?_eq_getElem hlt]
      have : (s[i] ≠ 47) ↔ s[i].toNat ≠ 47 := by
        constructor
        · intro h h'; exact h (UInt8.toNat_inj.1 h')
        · intro h h'; exact h (by rw [h']; rfl)
      simp [this]
    rw [hmay] at hih
    have hprev : 0 < i → evp .idx [.str s, .int .i64 ((i : Int) - 1)] = some (.int .u8 ((s.getD (i - 1) 0).toNat : Int)) := fun h => by
      have h1 : i - 1 < s.length := by omega
      rw [show ((i : Int) - 1) = (((i - 1 : Nat)) : Int) by omega]
      exact v_idx (by simp [List.getD, h1])
    have hsub : IntKind.i64.wrap ((i : Int) - 1) = (i : Int) - 1 := by
      by_cases h : 0 < i
      · rw [show ((i : Int) - 1) = (((i - 1 : Nat)) : Int) by omega]; exact w64 _ (by omega)
      · have : i = 0 := by omega
        subst this; decide
    have hm : mayB s i = (decide (0 < i) && decide ((s.getD (i - 1) 0).toNat ≠ 47)) := by
      unfold mayB
      have : (s.getD (i - 1) 0 ≠ 47) ↔ (s.getD (i - 1) 0).toNat ≠ 47 := by
        constructor
        · intro h h'; exact h (UInt8.toNat_inj.1 h')
        · intro h h'; exact h (by rw [h']; rfl)
      simp only [this]
    rw [hm]
    generalize (s.getD (i - 1) 0).toNat = pv at hprev ⊢
    rw [wordL]
    generalize s[i].toNat = c at hidx hih ⊢
    by_cases hA : al c = true
    · rw [if_pos hA]
      have h47 : decide (c ≠ 47) = true := decide_eq_true (fun h => by subst h; exact absurd hA (by decide))
      rw [h47] at hih
      unfold al at hA
      simp only [Bool.or_eq_true, Bool.and_eq_true, decide_eq_true_eq] at hA
      simp only [yy, if_pos (show (i : Int) < (s.length : Int) by omega), hidx, hn, hih]
      repeat' split
      all_goals first | rfl | (exfalso; omega)
    · rw [if_neg hA]
      unfold al at hA
      simp only [Bool.or_eq_true, Bool.and_eq_true, decide_eq_true_eq] at hA
      by_cases h47 : c = 47
      · subst h47
        rw [if_pos rfl]
        rw [decide_eq_false (by decide)] at hih
        by_cases h0 : 0 < i
        · rw [decide_eq_true h0, Bool.true_and]
          by_cases hp : pv = 47
          · simp only [yy, if_pos (show (i : Int) < (s.length : Int) by omega), hidx, hn, hih, if_pos (show (0 : Int) < (i : Int) by omega), hsub, hprev h0]
            subst hp
            simp; rfl
          · simp only [yy, if_pos (show (i : Int) < (s.length : Int) by omega), hidx, hn, hih, if_pos (show (0 : Int) < (i : Int) by omega), hsub, hprev h0]
            have : ¬ ((pv : Int) = 47) := by omega
            simp [hp, this]; rfl
        · simp only [yy, if_pos (show (i : Int) < (s.length : Int) by omega), hidx, hn, hih, if_neg (show ¬ (0 : Int) < (i : Int) by omega)]
          simp [h0]
      · rw [if_neg h47, Bool.false_and]
        simp only [yy, if_pos (show (i : Int) < (s.length : Int) by omega), hidx, hn]
        repeat' split
        all_goals first | rfl | (exfalso; omega)
theorem v.word (s : Bytes) (hs : s.length ≤ 1048576) : vl e 10 0 [.str s] = some (.bool (wordB s)) := by
  rw [w.seichelaw17_word]; unfold y.seichelaw17_word wordB
  exact v.word8 s hs s.length 0 (by omega)
/-! ## Same -/
theorem v.Same (r : MRes) (hl : r.reps.length ≤ 1000000) : vl e 9 0 [resM r, resM r] = some (.bool true) := by
  have s1 : evp .scs [resM r] = some (resM r) := rfl
  have l0 : evp (.ld none 0) [resM r] = some (.str r.path) := rfl
  have l1 : evp (.ld none 1) [resM r] = some (I r.level) := rfl
  have l2 : evp (.ld none 2) [resM r] = some (rps r.reps) := rfl
  have l3 : evp (.ld none 3) [resM r] = some (I r.fault) := rfl
  have key : ∀ (n i : Nat), i + n = r.reps.length → vl e 9 16 [I r.reps.length, I i, resM r, resM r] = some (.bool true) := by
    intro n
    induction n with
    | zero =>
      intro i hi
      rw [w.seicheref17_Same_16]; unfold y.seicheref17_Same_16
      simp only [yy, if_neg (show ¬ ((i : Int) < (r.reps.length : Int)) by omega)]
    | succ n ih =>
      intro i hi
      have hlt : i < r.reps.length := by omega
      rw [w.seicheref17_Same_16]; unfold y.seicheref17_Same_16
      have e2 : evp (.ld (some 2) 0) [rpV r.reps[i]] = some (rpV r.reps[i]) := rfl
      have e3 : evp (.bin .neq (.flat [(none, true), (none, true)])) [rpV r.reps[i], rpV r.reps[i]] = some (.bool false) := by
        simp [evp, abin, aeq, flatEq, kdEq, rpV]; rfl
      simp only [yy, if_pos (show (i : Int) < (r.reps.length : Int) by omega), l2, v_getR hlt, e2, e3, next64 hlt (by omega), ih (i + 1) (by omega)]
  rw [w.seicheref17_Same]; unfold y.seicheref17_Same
  simp only [yy, s1, l0, l1, l2, l3, if_true]
  rw [w.seicheref17_Same_7]; unfold y.seicheref17_Same_7
  simp only [yy, l2, List.length_map]
  exact key r.reps.length 0 (by omega)

/-! ## what alive tells -/
def e17 : Nat → List V → Option V := fun f xs => match f, xs with
  | 11, [.str s, .str [c]] => if s.length < 4294967281 then some (strs (splitOn c s)) else none
  | 14, [.str s, .str c] => if s.length < 4294967281 then some (I (Lib.index s c)) else none
  | 15, [.str s, .fn 16 []] => if s.length < 4294967281 then some (strs (fldB blankB3 s [])) else none
  | 33, [.str s, .str [34, 39, 96, 92, 40, 41, 44, 61, 62]] => if s.length < 4294967281 ∧ okC s = true then some (.bool (s.any fun b => chars9.contains b)) else none
  | 34, [.str s] => if s.length ≤ 281474976710656 then some (atoiE (atoiV s)) else none
  | 35, [.int .i64 1] => some (.str [49])
  | 35, [.int .i64 21] => some (.str [50, 49])
  | _, _ => none
theorem itoa1 : Lib.itoa 1 = [49] := by simp [Lib.itoa, Lib.decDigits]
theorem itoa21 : Lib.itoa 21 = [50, 49] := by simp [Lib.itoa, Lib.decDigits]
theorem e17_ok (he : EnvM e) (f : Nat) (xs : List V) (r : V) (h : e17 f xs = some r) : vl e f 0 xs = some r := by
  unfold e17 at h
  split at h
  · split at h
    · rename_i hc; cases h; exact v.split he _ _ hc
    · cases h
  · split at h
    · rename_i hc; cases h; exact v.index he _ _ hc
    · cases h
  · split at h
    · rename_i hc; cases h; exact v.fields he _ hc
    · cases h
  · split at h
    · rename_i hc; cases h; exact val_ext (by kernel_rfl) (he.cany _ hc.1 hc.2)
    · cases h
  · split at h
    · rename_i hc; cases h; exact v.atoi he _ hc
    · cases h
  · cases h; rw [← itoa1]; exact v.itoa he _ (by omega) (by omega)
  · cases h; rw [← itoa21]; exact v.itoa he _ (by omega) (by omega)
  · cases h
theorem v.alive17 (he : EnvM e) : vl e 6 0 [] = some (.bool true) := run_eq (T := ents) (e17_ok he) 200 (by kernel_rfl)

/-! ## what a word is -/
theorem wordL_al : ∀ {s : Bytes} {p : Bool}, wordL p s = true → ∀ c ∈ s, al c.toNat = true ∨ c.toNat = 47
  | [], _, _, c, hc => by cases hc
  | a :: r, p, h, c, hc => by
    rw [wordL] at h
    split at h
    · rename_i ha
      rcases List.mem_cons.1 hc with rfl | hc
      · exact .inl ha
      · exact wordL_al h c hc
    · split at h
      · rename_i h47
        split at h
        · rcases List.mem_cons.1 hc with rfl | hc
          · exact .inr h47
          · exact wordL_al h c hc
        · cases h
      · cases h
theorem wordL_hd {s : Bytes} (h : wordL false s = true) : s.headD 0 ≠ 47 := by
  cases s with
  | nil => decide
  | cons a r =>
    intro h'
    rw [List.headD_cons] at h'
    subst h'
    rw [wordL] at h
    simp [al] at h
theorem wordL_dbl : ∀ {s : Bytes} {p : Bool}, wordL p s = true → dbl s = false
  | [], _, _ => rfl
  | a :: r, p, h => by
    rw [wordL] at h
    rw [dbl]
    split at h
    · rename_i ha
      rw [wordL_dbl h, Bool.or_false]
      have : ¬ a = 47 := fun h' => by subst h'; exact absurd ha (by decide)
      rw [decide_eq_false this]; rfl
    · split at h
      · split at h
        · rw [wordL_dbl h, Bool.or_false]
          have := wordL_hd h
          rw [decide_eq_false this, Bool.and_false]
        · cases h
      · cases h
structure Wd (s : Bytes) : Prop where
  ne : s ≠ []
  len : s.length ≤ 100
  ch : ∀ c ∈ s, al c.toNat = true ∨ c.toNat = 47
  hd : s.headD 0 ≠ 47
  db : dbl s = false
theorem wd_of {s : Bytes} (h : wordB s = true) : Wd s := by
  unfold wordB at h
  simp only [Bool.and_eq_true, decide_eq_true_eq] at h
  exact ⟨h.2.1, h.2.2, wordL_al h.1, wordL_hd h.1, wordL_dbl h.1⟩
theorem Wd.range {s : Bytes} (h : Wd s) : ∀ c ∈ s, (97 ≤ c.toNat ∧ c.toNat ≤ 122) ∨ (46 ≤ c.toNat ∧ c.toNat ≤ 57) := fun c hc => by
  have := h.ch c hc
  unfold al at this
  simp only [Bool.or_eq_true, Bool.and_eq_true, decide_eq_true_eq] at this
  omega
theorem Wd.nb {s : Bytes} (h : Wd s) : ∀ c ∈ s, blankB3 c = false := fun c hc => by
  have := h.range c hc
  unfold blankB3
  simp only [Bool.or_eq_false_iff, decide_eq_false_iff_not]
  refine ⟨?_, ?_, ?_⟩ <;> (rintro rfl; simp at this)
theorem Wd.n10 {s : Bytes} (h : Wd s) : (10 : UInt8) ∉ s := fun hc => by have := h.range _ hc; simp at this
theorem Wd.asc {s : Bytes} (h : Wd s) : ascB s = true := by
  unfold ascB
  rw [List.all_eq_true]
  intro c hc
  have := h.range c hc
  simp; omega
theorem Wd.good {s : Bytes} (h : Wd s) : goodB s = true := by
  unfold goodB
  rw [decide_eq_true h.ne, Bool.true_and]
  have : (s.any fun b => chars9.contains b) = false := by
    rw [List.any_eq_false]
    intro c hc h'
    have := h.range c hc
    have h2 := List.contains_iff_mem.1 h'
    simp only [chars9, List.mem_cons, List.not_mem_nil, or_false] at h2
    rcases h2 with rfl | rfl | rfl | rfl | rfl | rfl | rfl | rfl | rfl <;> simp at this
  rw [this]; rfl
end Go.Proofs.YtanocopjancaiaaDoor
/-
  D1: decimal digits of small numbers. Own work of this seat.
-/
namespace Go.Proofs.YtanocopjancaiaaDoor
open Go.Abs
set_option maxRecDepth 10000
def dg : Nat → Nat → Bytes
  | 0, _ => []
  | f + 1, n => if n = 0 then [] else dg f (n / 10) ++ [UInt8.ofNat (48 + n % 10)]
theorem dg_ok : (List.range 10000).all (fun n => n == 0 || (decide (atoiV (dg 4 n) = ((n : Int), true)) && decide ((dg 4 n).length ≤ 4) && decide (dg 4 n ≠ []) && decide ((dg 4 n).headD 0 ≠ 48))) = true := by kernel_rfl
theorem dg_dec : ∀ (f n : Nat), 1 ≤ n → n < 10 ^ f → Lib.decDigits n = dg f n
  | 0, n, h0, h1 => by simp at h1; omega
  | f + 1, n, h0, h1 => by
    rw [Lib.decDigits, dg, if_neg (by omega)]
    by_cases h : n < 10
    · rw [dif_pos h, Nat.div_eq_of_lt h, Nat.mod_eq_of_lt h]
      have : dg f 0 = [] := by cases f <;> simp [dg]
      rw [this]; rfl
    · rw [dif_neg h, dg_dec f (n / 10) (by omega) (by rw [Nat.pow_succ] at h1; omega)]
theorem byte48 (d : Nat) (hd : d < 10) : IntKind.u8.wrap (IntKind.i64.wrap (48 + ((d : Nat) : Int))) = ((UInt8.ofNat (48 + d)).toNat : Int) := by
  rw [UInt8.toNat_ofNat_of_lt' (show 48 + d < 256 by omega)]
  have : ∀ d, d < 10 → IntKind.u8.wrap (IntKind.i64.wrap (48 + ((d : Nat) : Int))) = ((48 + d : Nat) : Int) := by decide
  exact this d hd
theorem v_one8 {c : UInt8} : evp (.bsl 1) [.int .u8 (c.toNat : Int)] = some (.sl false 1 [byteV c]) := rfl
end Go.Proofs.YtanocopjancaiaaDoor
/-
  What every card of this seat needs: the program's closed facts; a world for the witness; what came in. Own work of this seat, after the seat's worked example of a row that lists variables.
-/
namespace Go.Proofs.YtanocopjancaiaaDoor
open Go.ChangeShapes Go.WideShapes Go.RowKit Go.Abs

theorem ownK : ownKnob Tryd.prog.godebug = none := by kernel_rfl
theorem kids : Kids Tryd.prog (· < Tryd.prog.types.size) := kids_rows (by kernel_rfl) (by kernel_rfl)
theorem full : ∀ t e, t < Tryd.prog.types.size → Tryd.prog.underlying t = some (.slice e) → 0 < Tryd.prog.cellsOf e := slices_full_of Tryd.prog (by kernel_rfl)

/-- the cells of plain data -/
def litCells : Nat → DataW Unit → List Value
  | 0, _ => []
  | _ + 1, .lit (.int k n) => [.int k n]
  | n + 1, .agg ps => ps.flatMap (litCells n)
  | _, _ => []
noncomputable def laidWorld (os : Os) (args : Array Value) : World :=
  { World.holding Tryd.prog os ⟨#[], #[], []⟩ with heap := (((World.holding Tryd.prog os ⟨#[], #[], []⟩).heap.modify 1 fun
      | .cells _ t frozen => .cells (litCells 5 Rows.laid_unicode_utf8_first).toArray t frozen
      | o => o).modify 2 fun
      | .cells _ t frozen => .cells (litCells 5 Rows.laid_unicode_utf8_acceptRanges).toArray t frozen
      | o => o) }

/-! ## what came in, of a type -/
theorem u8_row : ∀ {wss : List (List V)}, (∀ ws ∈ wss, ∃ n : Int, ws = [.int .u8 n] ∧ IntKind.u8.min ≤ n ∧ n ≤ IntKind.u8.max) → ∃ l : Bytes, l.length = wss.length ∧ wss.flatten = encB l
  | [], _ => ⟨[], rfl, rfl⟩
  | w :: r, h => by
    obtain ⟨n, rfl, h1, h2⟩ := h w (by simp)
    obtain ⟨l, hl, hf⟩ := u8_row (wss := r) fun x hx => h x (by simp [hx])
    have h1 : 0 ≤ n := h1
    have h2 : n ≤ 255 := h2
    refine ⟨UInt8.ofNat n.toNat :: l, by simp [hl], ?_⟩
    have e : ((UInt8.ofNat n.toNat).toNat : Int) = n := by
      rw [UInt8.toNat_ofNat_of_lt' (show n.toNat < 256 by omega)]; omega
    show [V.int .u8 n] ++ r.flatten = _
    rw [hf]
    simp only [encB, List.map_cons, byteV]
    rw [e]; rfl
section
variable {P : Program} {m : Nat} {t e : TypeId} {vs : List V}
theorem in_bool (hu : P.underlying t = some .bool) (h : HasT P (m + 1) t vs) : ∃ x : Bool, nfL vs = [V.bool x] := by
  simp only [HasT, hu] at h
  obtain ⟨b, rfl⟩ := h; exact ⟨b, rfl⟩
theorem in_int {k : IntKind} (hu : P.underlying t = some (.int k)) (h : HasT P (m + 1) t vs) : ∃ x : Int, nfL vs = [V.int k x] := by
  simp only [HasT, hu] at h
  obtain ⟨n, rfl, _⟩ := h; exact ⟨n, rfl⟩
theorem in_i64 (hu : P.underlying t = some (.int .i64)) (h : HasT P (m + 1) t vs) : ∃ x : Int, nfL vs = [V.int .i64 x] ∧ -9223372036854775808 ≤ x ∧ x ≤ 9223372036854775807 := by
  simp only [HasT, hu] at h
  obtain ⟨n, rfl, h1, h2⟩ := h; exact ⟨n, rfl, h1, h2⟩
theorem in_u8 (hu : P.underlying t = some (.int .u8)) (h : HasT P (m + 1) t vs) : ∃ x : UInt8, nfL vs = [byteV x] := by
  simp only [HasT, hu] at h
  obtain ⟨n, rfl, h1, h2⟩ := h
  have h1 : 0 ≤ n := h1
  have h2 : n ≤ 255 := h2
  refine ⟨UInt8.ofNat n.toNat, ?_⟩
  have e : ((UInt8.ofNat n.toNat).toNat : Int) = n := by
    rw [UInt8.toNat_ofNat_of_lt' (show n.toNat < 256 by omega)]; omega
  show [V.int .u8 n] = [V.int .u8 _]
  rw [e]
theorem in_str (hu : P.underlying t = some .string) (h : HasT P (m + 1) t vs) : ∃ x : Bytes, nfL vs = [V.str x] := by
  simp only [HasT, hu] at h
  obtain ⟨b, rfl⟩ := h; exact ⟨b, rfl⟩
theorem in_sl {α : Type} {E : α → V} {c : Nat} (hu : P.underlying t = some (.slice e)) (hc : P.cellsOf e = c) (he : ∀ ws, HasT P m e ws → ∃ x, (elV P e ws).nf = E x) (h : HasT P (m + 1) t vs) : ∃ l : List α, nfL vs = [V.sl false c (l.map E)] := by
  simp only [HasT, hu, hc] at h
  rcases h with rfl | ⟨xs, rfl, hx⟩
  · exact ⟨[], rfl⟩
  · have : ∃ l : List α, nfL xs = l.map E := by
      clear hc
      induction xs with
      | nil => exact ⟨[], rfl⟩
      | cons x r ih =>
        obtain ⟨l, hl⟩ := ih fun y hy => hx y (by simp [hy])
        obtain ⟨ws, hw, rfl⟩ := hx x (by simp)
        obtain ⟨a, ha⟩ := he ws hw
        exact ⟨a :: l, by rw [nfL, ha, hl]; rfl⟩
    obtain ⟨l, hl⟩ := this
    exact ⟨l, by show [V.sl false c (nfL xs)] = _; rw [hl]⟩
theorem in_arr {n : Nat} (hu : P.underlying t = some (.array n e)) (he : P.underlying e = some (.int .u8)) (h : HasT P (m + 2) t vs) : ∃ x : Arr n, nfL vs = encB x.1 := by
  unfold HasT at h
  simp only [hu] at h
  obtain ⟨wss, hl, hw, rfl⟩ := h
  obtain ⟨l, h1, h2⟩ := u8_row (wss := wss) fun ws hws => by
    have := hw ws hws
    simpa only [HasT, he] using this
  exact ⟨⟨l, by rw [h1, hl]⟩, by rw [h2, nf_encB]⟩
theorem el_agg (ha : isAgT P t = true) {l : List V} (h : nfL vs = l) : (elV P t vs).nf = .agg l := by
  unfold elV; rw [if_pos ha]; show V.agg (nfL vs) = _; rw [h]
theorem el_one (ha : isAgT P t = false) {v : V} (h : nfL vs = [v]) : (elV P t vs).nf = v := by
  unfold elV; rw [if_neg (by simp [ha])]
  cases vs with
  | nil => cases h
  | cons x r => rw [nfL] at h; exact (List.cons.inj h).1
theorem nfL_flat : ∀ {wss : List (List V)}, nfL wss.flatten = (wss.map nfL).flatten
  | [] => rfl
  | w :: r => by rw [List.flatten_cons, nfL_append, nfL_flat]; rfl
end

/-! ## weights -/
mutual
theorem nf_wt : ∀ v : V, v.nf.wt ≤ v.wt
  | .agg cs => by simp only [V.nf, V.wt]; have := nfL_wt cs; omega
  | .sl true sz [] => by simp [V.nf, V.wt]
  | .sl true _ (x :: xs) => by simp [V.nf, V.wt]
  | .sl false sz xs => by simp only [V.nf, V.wt]; have := nfL_wt xs; omega
  | .el cs off => by simp [V.nf, V.wt]
  | .tup cs => by simp [V.nf, V.wt]
  | .fn f cs => by simp [V.nf, V.wt]
  | .mfn f cs => by simp [V.nf, V.wt]
  | .iface t v => by simp [V.nf, V.wt]
  | .bool b => Nat.le_refl _
  | .int k n => Nat.le_refl _
  | .str s => Nat.le_refl _
  | .osl a b c d e => Nat.le_refl _
  | .gp g o => Nat.le_refl _
  | .ptr i o => Nat.le_refl _
  | .nilptr => Nat.le_refl _
  | .map i => Nat.le_refl _
  | .nilmap => Nat.le_refl _
  | .nilfn => Nat.le_refl _
  | .nilif => Nat.le_refl _
theorem nfL_wt : ∀ l : List V, wtL (nfL l) ≤ wtL l
  | [] => Nat.le_refl _
  | v :: r => by simp only [nfL, wtL]; have := nf_wt v; have := nfL_wt r; omega
end
theorem wt_of {v w : V} {n : Nat} (h : v.nf = w) (hn : v.wt ≤ n) : w.wt ≤ n := by rw [← h]; exact Nat.le_trans (nf_wt v) hn
theorem wt_sl {α : Type} {E : α → V} {c : Nat} {l : List α} {n : Nat} (h : (V.sl false c (l.map E)).wt ≤ n) : l.length ≤ n ∧ ∀ a ∈ l, (E a).wt ≤ n := by
  simp only [V.wt] at h
  refine ⟨by have := wtL_length (l.map E); simp at this; omega, fun a ha => ?_⟩
  have := wtL_mem (List.mem_map_of_mem (f := E) ha)
  omega
theorem wt_str {s : Bytes} {n : Nat} (h : (V.str s).wt ≤ n) : s.length ≤ n := by simp only [V.wt] at h; omega
theorem wt_mem {cs : List V} {v : V} {n : Nat} (h : (V.agg cs).wt ≤ n) (hv : v ∈ cs) : v.wt ≤ n := by
  simp only [V.wt] at h
  have := wtL_mem hv; omega

theorem law_end {cx : Cx} {c : FC} {args : List V} {xs : Array Value} (hc : c.Holds cx) (hr : c.rel (nfL args) (.bool true)) (hx : RepL cx.w0 (G0 cx.w0) (fun _ => none) args xs) :
    Calls cx.P c.f xs cx.w0 fun e W' => e = .returned (.bool true) ∧ Below cx.w0.heap.size cx.w0 W' := by
  obtain ⟨v, o, h1, h2, _⟩ := hc args _ hr
  rw [nf_bool h2] at h1
  exact law_calls h1 hx
end Go.Proofs.YtanocopjancaiaaDoor
/-
  V6: the law ModfileMakes. Own work of this seat.
-/
namespace Go.Proofs.YtanocopjancaiaaDoor
open Go.Abs
set_option maxRecDepth 10000
variable {e : Nat → List V → Option V}
/-! ## lines -/
def kMod : Bytes := [109, 111, 100, 117, 108, 101]
def kGo : Bytes := [103, 111]
def kRep : Bytes := [114, 101, 112, 108, 97, 99, 101]
def kReq : Bytes := [114, 101, 113, 117, 105, 114, 101]
abbrev lMod (p : Bytes) : Bytes := [109, 111, 100, 117, 108, 101, 32] ++ p
abbrev lGo (d : Bytes) : Bytes := [103, 111, 32, 49, 46] ++ d
abbrev lTo (p d : Bytes) : Bytes := p ++ ([32, 61, 62, 32, 46, 47] ++ d)
theorem dbl_pre (a b : Bytes) (ha : dbl a = false) (hb : dbl b = false) (hh : b.headD 0 ≠ 47) : dbl (a ++ b) = false := by rw [dbl_app a b hh, ha, hb]; rfl
theorem nb_of {w : Bytes} (h : w.all (fun c => !blankB3 c) = true) : ∀ c ∈ w, blankB3 c = false := fun c hc => by have := List.all_eq_true.1 h c hc; simpa using this
theorem words_mod {p : Bytes} (hp : Wd p) : wordsOf (lMod p) = [kMod, p] := by
  have hd : dbl (lMod p) = false := dbl_pre _ _ (by decide) hp.db hp.hd
  unfold wordsOf
  rw [cut_id hd]
  show fldB blankB3 (kMod ++ 32 :: p) [] = _
  rw [fld_w blankB3 kMod (nb_of (by decide)) (by decide) 32 (by decide), fld_e blankB3 p hp.nb hp.ne]
theorem words_go {d : Bytes} (hd : ∀ c ∈ d, 48 ≤ c.toNat ∧ c.toNat ≤ 57) : wordsOf (lGo d) = [kGo, [49, 46] ++ d] := by
  have hdd : ∀ d : Bytes, (∀ c ∈ d, 48 ≤ c.toNat ∧ c.toNat ≤ 57) → dbl d = false ∧ d.headD 0 ≠ 47 := by
    intro d
    induction d with
    | nil => intro _; exact ⟨rfl, by decide⟩
    | cons a r ih =>
      intro h
      have ha := h a (by simp)
      have hne : ¬ a = 47 := by rintro rfl; simp at ha
      refine ⟨?_, by simpa using hne⟩
      rw [dbl, (ih fun c hc => h c (by simp [hc])).1, decide_eq_false hne]; rfl
  obtain ⟨h1, h2⟩ := hdd d hd
  have hdb : dbl (lGo d) = false := dbl_pre _ _ (by decide) h1 h2
  unfold wordsOf
  rw [cut_id hdb]
  show fldB blankB3 (kGo ++ 32 :: ([49, 46] ++ d)) [] = _
  have hnb : ∀ c ∈ ([49, 46] ++ d : Bytes), blankB3 c = false := by
    intro c hc
    rcases List.mem_append.1 hc with hc | hc
    · exact nb_of (by decide) c hc
    · have := hd c hc
      unfold blankB3
      simp only [Bool.or_eq_false_iff, decide_eq_false_iff_not]
      refine ⟨?_, ?_, ?_⟩ <;> (rintro rfl; simp at this)
  rw [fld_w blankB3 kGo (nb_of (by decide)) (by decide) 32 (by decide), fld_e blankB3 _ hnb (by simp)]
theorem dbl_to {p d : Bytes} (hp : Wd p) (hd : Wd d) : dbl (lTo p d) = false := by
  refine dbl_pre _ _ hp.db ?_ (by show (32 : UInt8) ≠ 47; decide)
  show dbl ([32, 61, 62, 32, 46, 47] ++ d) = false
  rw [dbl_app _ _ hd.hd, hd.db]; decide
theorem fld_to {p d : Bytes} (hp : Wd p) (hd : Wd d) : fldB blankB3 (lTo p d) [] = [p, [61, 62], [46, 47] ++ d] := by
  show fldB blankB3 (p ++ 32 :: ([61, 62] ++ 32 :: ([46, 47] ++ d))) [] = _
  have hnb : ∀ c ∈ ([46, 47] ++ d : Bytes), blankB3 c = false := by
    intro c hc
    rcases List.mem_append.1 hc with hc | hc
    · exact nb_of (by decide) c hc
    · exact hd.nb c hc
  rw [fld_w blankB3 p hp.nb hp.ne 32 (by decide), fld_w blankB3 [61, 62] (nb_of (by decide)) (by decide) 32 (by decide), fld_e blankB3 _ hnb (by simp)]
theorem words_to {p d : Bytes} (hp : Wd p) (hd : Wd d) : wordsOf (lTo p d) = [p, [61, 62], [46, 47] ++ d] := by
  unfold wordsOf
  rw [cut_id (dbl_to hp hd), fld_to hp hd]
theorem words_rep {p d : Bytes} (hp : Wd p) (hd : Wd d) : wordsOf ([114, 101, 112, 108, 97, 99, 101, 32] ++ lTo p d) = [kRep, p, [61, 62], [46, 47] ++ d] := by
  have hh : (lTo p d).headD 0 ≠ 47 := by
    have := hp.hd
    have hn := hp.ne
    cases p with
    | nil => exact absurd rfl hn
    | cons a r => simpa [lTo] using this
  unfold wordsOf
  rw [cut_id (dbl_pre _ _ (by decide) (dbl_to hp hd) hh)]
  show fldB blankB3 (kRep ++ 32 :: lTo p d) [] = _
  rw [fld_w blankB3 kRep (nb_of (by decide)) (by decide) 32 (by decide), fld_to hp hd]

/-! ## what they do -/
theorem line_mod {p : Bytes} (hp : Wd p) : lineB (wordsOf (lMod p)) m0 = (true, { m0 with path := p }) := by
  rw [words_mod hp, lineB_cons, if_neg (by decide), if_neg (by
    intro h
    have := (List.cons.inj h).1
    have h2 := hp.range 40 (by rw [this]; simp)
    simp at h2), verbB, if_pos (by decide), if_pos ⟨rfl, hp.good, rfl⟩]; rfl
def digB (n : Nat) : Bytes := if n = 0 then [48] else dg 4 n
theorem dg_mem : ∀ (f n : Nat), ∀ c ∈ dg f n, 48 ≤ c.toNat ∧ c.toNat ≤ 57
  | 0, _, c, hc => by cases hc
  | f + 1, n, c, hc => by
    unfold dg at hc
    split at hc
    · cases hc
    · rcases List.mem_append.1 hc with hc | hc
      · exact dg_mem f _ c hc
      · obtain rfl := List.mem_singleton.1 hc
        have := Nat.mod_lt n (show 0 < 10 by decide)
        rw [UInt8.toNat_ofNat_of_lt' (show 48 + n % 10 < 256 by omega)]; omega
theorem dig_mem (n : Nat) : ∀ c ∈ digB n, 48 ≤ c.toNat ∧ c.toNat ≤ 57 := by
  intro c hc
  unfold digB at hc
  split at hc
  · simp at hc; subst hc; decide
  · exact dg_mem _ _ c hc
theorem itoa0 : Lib.itoa 0 = [48] := by simp [Lib.itoa, Lib.decDigits]
theorem dig_ok {n : Nat} (h : n < 10000) : numOK (digB n) = true ∧ (atoiV (digB n)).1 = n ∧ (digB n).length ≤ 4 := by
  unfold digB
  split
  · rename_i h0
    subst h0
    have ha : atoiV [48] = (0, true) := by kernel_rfl
    refine ⟨?_, by rw [ha]; rfl, by decide⟩
    unfold numOK
    rw [ha]
    simp only [itoa0]; decide
  · rename_i h0
    have hk := List.all_eq_true.1 dg_ok n (List.mem_range.2 h)
    have hz : (n == 0) = false := by simp; omega
    simp only [hz, Bool.false_or, Bool.and_eq_true, decide_eq_true_eq] at hk
    obtain ⟨⟨⟨q1, q2⟩, _⟩, _⟩ := hk
    have hi : Lib.itoa ((n : Int)) = dg 4 n := by
      unfold Lib.itoa
      rw [if_neg (by omega), Int.toNat_natCast]
      exact dg_dec 4 n (by omega) (by omega)
    refine ⟨?_, by rw [q1], q2⟩
    unfold numOK
    rw [q1]
    simp only [hi, decide_true, Bool.true_and]
    simp [q2]
theorem level_dig {n : Nat} (h : n < 10000) : levelO ([49, 46] ++ digB n) = ((n : Int), true) := by
  obtain ⟨h1, h2, h3⟩ := dig_ok h
  have h46 : (46 : UInt8) ∉ digB n := fun hc => by have := dig_mem n _ hc; simp at this
  have hs : splitOn 46 ([49, 46] ++ digB n) = [[49], digB n] := by
    show splitOn 46 ([49] ++ 46 :: digB n) = _
    rw [split_app 46 [49] _ (by decide), split_one 46 _ h46]
  have h1o : numOK [49] = true := by
    have ha : atoiV [49] = (1, true) := by kernel_rfl
    unfold numOK
    rw [ha]; simp only [itoa1]; decide
  unfold levelO
  rw [hs]
  dsimp only
  rw [if_pos ⟨by simp, by simp, rfl, by simp [h1, h1o]⟩]
  show ((atoiV (digB n)).1, true) = _
  rw [h2]
theorem line_go {m : MSt} {n : Nat} (h : n < 10000) (hb : m.block = []) (hg : m.gone = false) : lineB (wordsOf (lGo (digB n))) m = (true, { m with level := n, gone := true }) := by
  rw [words_go (dig_mem n), lineB_cons, if_neg (by simp [hb]), if_neg (by intro h; have := (List.cons.inj h).1; simp at this), verbB, if_neg (by decide), if_pos (by decide), if_neg (by simp), if_neg (by simp [hg])]
  rw [List.headD_cons, level_dig h]
theorem rep_ok {p d : Bytes} {m : MSt} (hp : Wd p) (hm : (m.reps.any fun q => decide (q.1 = p)) = false) : repB [p, [61, 62], [46, 47] ++ d] m = (true, { m with reps := m.reps ++ [(p, [46, 47] ++ d)] }) := by
  have hne : ¬ ([61, 62] : Bytes) = p := fun h => by have := hp.range 61 (by rw [← h]; simp); simp at this
  have hi : idxA [61, 62] [p, [61, 62], [46, 47] ++ d] 0 = 1 := by simp [idxA, hne]
  have hh : hereB ([46, 47] ++ d) = true := by simp [hereB]
  unfold repB
  rw [hi]
  dsimp only
  simp only [List.headD_cons, hm]
  simp [hp.good]
  rw [if_neg (by rw [show (46 :: 47 :: d : Bytes) = [46, 47] ++ d from rfl, hh]; decide)]
  exact if_neg (fun h => by have h' : (m.reps.any fun q => decide (q.1 = p)) = true := h; rw [hm] at h'; cases h')
theorem line_to {p d : Bytes} {m : MSt} (hp : Wd p) (hd : Wd d) (hb : m.block = kRep) (hm : (m.reps.any fun q => decide (q.1 = p)) = false) : lineB (wordsOf (lTo p d)) m = (true, { m with reps := m.reps ++ [(p, [46, 47] ++ d)] }) := by
  have h41 : ¬ p = [41] := fun h => by have := hp.range 41 (by rw [h]; simp); simp at this
  have hv : ∀ ws, verbB m.block ws m = verbB kRep ws m := fun ws => by rw [hb]
  rw [words_to hp hd, lineB_cons, if_pos (by rw [hb]; decide), if_neg h41, hv, verbB, if_neg (by decide), if_neg (by decide), if_pos (by decide), rep_ok hp hm]
theorem line_rep {p d : Bytes} {m : MSt} (hp : Wd p) (hd : Wd d) (hb : m.block = []) (hm : (m.reps.any fun q => decide (q.1 = p)) = false) : lineB (wordsOf ([114, 101, 112, 108, 97, 99, 101, 32] ++ lTo p d)) m = (true, { m with reps := m.reps ++ [(p, [46, 47] ++ d)] }) := by
  rw [words_rep hp hd, lineB_cons, if_neg (by simp [hb]), if_neg (by simp), verbB, if_neg (by decide), if_neg (by decide), if_pos (by decide), rep_ok hp hm]

/-! ## the law's loops -/
def lineOf (b : Bool) (p d : Bytes) : Bytes := (if b = true then [] else [114, 101, 112, 108, 97, 99, 101, 32]) ++ lTo p d
theorem lineOf_ok {b : Bool} {p d : Bytes} {m : MSt} (hp : Wd p) (hd : Wd d) (hb : m.block = if b = true then kRep else []) (hm : (m.reps.any fun q => decide (q.1 = p)) = false) :
    lineB (wordsOf (lineOf b p d)) m = (true, { m with reps := m.reps ++ [(p, [46, 47] ++ d)] }) := by
  cases b with
  | true => exact line_to hp hd hb hm
  | false => exact line_rep hp hd hb hm
/-- what was written so far -/
structure Fits (t : Bytes) (m : MSt) (i : Nat) : Prop where
  ls : ∃ ls, t = unl ls ∧ (∀ l ∈ ls, (10 : UInt8) ∉ l) ∧ runL ls m0 = some m
  asc : ascB t = true
  len : t.length ≤ 300 + 300 * i
theorem Fits.more {t : Bytes} {m m' : MSt} {i : Nat} (h : Fits t m i) (l : Bytes) (h10 : (10 : UInt8) ∉ l) (hl : lineB (wordsOf l) m = (true, m')) (ha : ascB l = true) (hn : l.length ≤ 299) : Fits (t ++ (l ++ [10])) m' (i + 1) := by
  obtain ⟨⟨ls, rfl, h1, h2⟩, h3, h4⟩ := h
  refine ⟨⟨ls ++ [l], ?_, fun x hx => ?_, ?_⟩, ?_, ?_⟩
  · rw [unl_app]; rfl
  · rcases List.mem_append.1 hx with hx | hx
    · exact h1 x hx
    · simp at hx; rw [hx]; exact h10
  · rw [runL_app, h2]
    show runL [l] m = _
    rw [runL, hl, if_pos rfl]; rfl
  · rw [asc_app, asc_app, h3, ha]; rfl
  · simp at h4 ⊢; omega
theorem lineOf_facts {b : Bool} {p d : Bytes} (hp : Wd p) (hd : Wd d) : (10 : UInt8) ∉ lineOf b p d ∧ ascB (lineOf b p d) = true ∧ (lineOf b p d).length ≤ 299 := by
  have h1 := hp.n10; have h2 := hd.n10; have h3 := hp.asc; have h4 := hd.asc; have h5 := hp.len; have h6 := hd.len
  unfold lineOf lTo
  refine ⟨?_, ?_, ?_⟩
  · intro h
    simp only [List.mem_append] at h
    rcases h with h | h | h | h
    · split at h <;> simp at h
    · exact h1 h
    · simp at h
    · exact h2 h
  · rw [asc_app, asc_app, asc_app, h3, h4]
    split <;> decide
  · simp only [List.length_append, List.length_cons, List.length_nil]
    split <;> simp <;> omega
theorem v_cat2 {a b : Bytes} : evp (.cat [none, none]) [.str a, .str b] = some (rpV (a, b)) := rfl
theorem v_bsl2 {p : Bytes × Bytes} : evp (.bsl 2) [rpV p] = some (rps [p]) := rfl
theorem v_app2 {l : List (Bytes × Bytes)} {p : Bytes × Bytes} (h : l.length + 1 ≤ Lim) : evp (.app 2) [rps l, rps [p]] = some (rps (l ++ [p])) := by
  rw [rps, v_app (by simpa using h)]; simp
theorem v.M74 (fs ds : List Bytes) (hl : fs.length ≤ 20) (hd : fs.length ≤ ds.length) (hfl : ∀ x ∈ fs, x.length ≤ 1048576) (hdl : ∀ x ∈ ds, x.length ≤ 1048576) (b : Bool) (path : Bytes) (lv : Int) (t : Bytes) (ht : t.length ≤ 100000) (i : Nat) (hi : i < fs.length) (h1 : (fs[i]).length ≤ 100) (h2 : (ds[i]).length ≤ 100) (reps : List (Bytes × Bytes)) (hr : reps.length ≤ 1000) (R : Option V)
    (hR : fs[i] ∉ fs.take i → vl e 4 51 [strs fs, strs ds, .bool b, .str (t ++ (lineOf b fs[i] ds[i] ++ [10])), strs fs, I fs.length, I (i + 1 : Nat), .str path, I lv, rps (reps ++ [(fs[i], [46, 47] ++ ds[i])]), I 0] = R) (hT : fs[i] ∈ fs.take i → R = some (.bool true)) :
    ∀ (n k : Nat), k + n = i → fs[i] ∉ fs.take k → vl e 4 74 [strs fs, strs ds, .bool b, .str t, I i, .str fs[i], I k, strs fs, I fs.length, I i, .str path, I lv, rps reps, I 0] = R := by
  intro n
  induction n with
  | zero =>
    intro k hk hnot
    obtain rfl : k = i := by omega
    have hR' := hR hnot
    rw [w.seichelaw17_ModfileMakes_74]; unfold y.seichelaw17_ModfileMakes_74
    have hgd : evp (.elem 1) [strs ds, .int .i64 (k : Int)] = some (.str ds[k]) := v_get (by omega)
    have hnx := next64 hi (by omega)
    generalize hF : fs[k] = F at *
    generalize hD : ds[k] = D at *
    cases b with
    | false =>
      have a1 : evp (.bin .add .no) [.str t, .str [114, 101, 112, 108, 97, 99, 101, 32]] = some (.str (t ++ [114, 101, 112, 108, 97, 99, 101, 32])) := v_sadd (by simp; omega)
      have a2 : evp (.bin .add .no) [.str (t ++ [114, 101, 112, 108, 97, 99, 101, 32]), .str F] = some (.str (t ++ [114, 101, 112, 108, 97, 99, 101, 32] ++ F)) := v_sadd (by simp; omega)
      have a3 : evp (.bin .add .no) [.str (t ++ [114, 101, 112, 108, 97, 99, 101, 32] ++ F), .str [32, 61, 62, 32, 46, 47]] = some (.str (t ++ [114, 101, 112, 108, 97, 99, 101, 32] ++ F ++ [32, 61, 62, 32, 46, 47])) := v_sadd (by simp; omega)
      have a4 : evp (.bin .add .no) [.str (t ++ [114, 101, 112, 108, 97, 99, 101, 32] ++ F ++ [32, 61, 62, 32, 46, 47]), .str D] = some (.str (t ++ [114, 101, 112, 108, 97, 99, 101, 32] ++ F ++ [32, 61, 62, 32, 46, 47] ++ D)) := v_sadd (by simp; omega)
      have a5 : evp (.bin .add .no) [.str (t ++ [114, 101, 112, 108, 97, 99, 101, 32] ++ F ++ [32, 61, 62, 32, 46, 47] ++ D), .str [10]] = some (.str (t ++ [114, 101, 112, 108, 97, 99, 101, 32] ++ F ++ [32, 61, 62, 32, 46, 47] ++ D ++ [10])) := v_sadd (by simp; omega)
      have a6 : evp (.bin .add .no) [.str [46, 47], .str D] = some (.str ([46, 47] ++ D)) := v_sadd (by simp; omega)
      simp only [yy, if_neg (show ¬ ((k : Int) < (k : Int)) by omega), a1, a2, a3, hgd, v_lds, a4, a5, a6, v_cat2, v_bsl2, v_app2 (show reps.length + 1 ≤ Lim by simp [Lim]; omega), hnx]
      rw [← hR']
      simp [lineOf, lTo]
    | true =>
      have a2 : evp (.bin .add .no) [.str t, .str F] = some (.str (t ++ F)) := v_sadd (by omega)
      have a3 : evp (.bin .add .no) [.str (t ++ F), .str [32, 61, 62, 32, 46, 47]] = some (.str (t ++ F ++ [32, 61, 62, 32, 46, 47])) := v_sadd (by simp; omega)
      have a4 : evp (.bin .add .no) [.str (t ++ F ++ [32, 61, 62, 32, 46, 47]), .str D] = some (.str (t ++ F ++ [32, 61, 62, 32, 46, 47] ++ D)) := v_sadd (by simp; omega)
      have a5 : evp (.bin .add .no) [.str (t ++ F ++ [32, 61, 62, 32, 46, 47] ++ D), .str [10]] = some (.str (t ++ F ++ [32, 61, 62, 32, 46, 47] ++ D ++ [10])) := v_sadd (by simp; omega)
      have a6 : evp (.bin .add .no) [.str [46, 47], .str D] = some (.str ([46, 47] ++ D)) := v_sadd (by simp; omega)
      simp only [yy, if_neg (show ¬ ((k : Int) < (k : Int)) by omega), a2, a3, hgd, v_lds, a4, a5, a6, v_cat2, v_bsl2, v_app2 (show reps.length + 1 ≤ Lim by simp [Lim]; omega), hnx]
      rw [← hR']
      simp [lineOf, lTo]
  | succ n ih =>
    intro k hk hnot
    have hlt : k < fs.length := by omega
    rw [w.seichelaw17_ModfileMakes_74]; unfold y.seichelaw17_ModfileMakes_74
    by_cases h : fs[k] = fs[i]
    · simp only [yy, if_pos (show (k : Int) < (i : Int) by omega), v_get hlt, v_lds, if_pos h]
      refine (hT ?_).symm
      rw [← h]
      exact List.mem_take_iff_getElem.2 ⟨k, by omega, rfl⟩
    · simp only [yy, if_pos (show (k : Int) < (i : Int) by omega), v_get hlt, v_lds, if_neg h, next64 hlt (by omega)]
      refine ih (k + 1) (by omega) ?_
      rw [List.take_add_one, List.getElem?_eq_getElem hlt]
      intro hm
      rcases List.mem_append.1 hm with hm | hm
      · exact hnot hm
      · simp at hm; exact h hm.symm
theorem take_any {fs : List Bytes} {reps : List (Bytes × Bytes)} {i : Nat} {x : Bytes} (h : reps.map (·.1) = fs.take i) (hx : x ∉ fs.take i) : (reps.any fun q => decide (q.1 = x)) = false := by
  rw [List.any_eq_false]
  intro q hq h'
  refine hx ?_
  rw [← h, ← of_decide_eq_true h']
  exact List.mem_map_of_mem (f := (·.1)) hq
def stM (p : Bytes) (lv : Int) (reps : List (Bytes × Bytes)) (b : Bool) : MSt := ⟨p, lv, reps, if b = true then kRep else [], true⟩
theorem words_req : wordsOf [114, 101, 113, 117, 105, 114, 101, 32, 120, 32, 118, 49] = [kReq, [120], [118, 49]] := by kernel_rfl
theorem words_cl : wordsOf [41] = [[41]] := by kernel_rfl
theorem words_op : wordsOf [114, 101, 112, 108, 97, 99, 101, 32, 40] = [kRep, [40]] := by kernel_rfl
theorem line_req {m : MSt} (hb : m.block = []) : lineB (wordsOf [114, 101, 113, 117, 105, 114, 101, 32, 120, 32, 118, 49]) m = (true, m) := by
  rw [words_req, lineB_cons, if_neg (by simp [hb]), if_neg (by decide), verbB, if_neg (by decide), if_neg (by decide), if_neg (by decide), if_pos (by decide)]; rfl
theorem v.L51 (he : EnvM e) (path : Bytes) (hp : Wd path) (lv : Int) (b : Bool) (fs ds : List Bytes) (hl : fs.length ≤ 20) (hd : fs.length ≤ ds.length) (hfl : ∀ x ∈ fs, x.length ≤ 1048576) (hdl : ∀ x ∈ ds, x.length ≤ 1048576) :
    ∀ (n i : Nat) (t : Bytes) (reps : List (Bytes × Bytes)), i + n = fs.length → Fits t (stM path lv reps b) i → reps.map (·.1) = fs.take i → reps.length ≤ i →
    vl e 4 51 [strs fs, strs ds, .bool b, .str t, strs fs, I fs.length, I i, .str path, I lv, rps reps, I 0] = some (.bool true) := by
  intro n
  induction n with
  | zero =>
    intro i t reps hi hf hr hrl
    rw [w.seichelaw17_ModfileMakes_51]; unfold y.seichelaw17_ModfileMakes_51
    have fin : ∀ (T : Bytes), Fits T (stM path lv reps false) (i + 2) → vl e 8 0 [.str T] = some (resM ⟨path, lv, reps, 0⟩) := by
      intro T hT
      obtain ⟨⟨ls, rfl, h1, h2⟩, h3, h4⟩ := hT
      have hpar := v.Parse he (unl ls) (by omega) (ok_text h3)
      rw [parse_unl h1 h2 rfl hp.ne] at hpar
      exact hpar
    have hsame := v.Same (e := e) ⟨path, lv, reps, 0⟩ (by show reps.length ≤ 1000000; omega)
    have hcat : evp (.cat [none, none, none, none]) [.str path, I lv, rps reps, I 0] = some (resM ⟨path, lv, reps, 0⟩) := rfl
    have h4 := hf.len
    have hreq : ∀ {T : Bytes} {k : Nat}, Fits T (stM path lv reps false) k → Fits (T ++ ([114, 101, 113, 117, 105, 114, 101, 32, 120, 32, 118, 49] ++ [10])) (stM path lv reps false) (k + 1) := fun h =>
      h.more [114, 101, 113, 117, 105, 114, 101, 32, 120, 32, 118, 49] (by decide) (line_req rfl) (by decide) (by decide)
    cases b with
    | true =>
      have hcl : Fits (t ++ ([41] ++ [10])) (stM path lv reps false) (i + 1) := hf.more [41] (by decide) (by
        rw [words_cl, lineB_cons, if_pos (show (stM path lv reps true).block ≠ [] by show kRep ≠ []; decide), if_pos rfl]; rfl) (by decide) (by decide)
      have hp2 := fin _ (hreq hcl)
      have a1 : evp (.bin .add .no) [.str t, .str [41, 10]] = some (.str (t ++ [41, 10])) := v_sadd (by simp; omega)
      have a2 : evp (.bin .add .no) [.str (t ++ [41, 10]), .str [114, 101, 113, 117, 105, 114, 101, 32, 120, 32, 118, 49, 10]] = some (.str (t ++ [41, 10] ++ [114, 101, 113, 117, 105, 114, 101, 32, 120, 32, 118, 49, 10])) := v_sadd (by simp; omega)
      have e2 : (t ++ [41, 10] ++ [114, 101, 113, 117, 105, 114, 101, 32, 120, 32, 118, 49, 10] : Bytes) = t ++ ([41] ++ [10]) ++ ([114, 101, 113, 117, 105, 114, 101, 32, 120, 32, 118, 49] ++ [10]) := by simp
      rw [e2] at a2
      simp only [yy, if_neg (show ¬ ((i : Int) < (fs.length : Int)) by omega), a1, a2, hp2, hcat, hsame]
    | false =>
      have hp2 := fin _ (by
        have := hreq hf
        exact ⟨this.ls, this.asc, by have := this.len; omega⟩)
      have a2 : evp (.bin .add .no) [.str t, .str [114, 101, 113, 117, 105, 114, 101, 32, 120, 32, 118, 49, 10]] = some (.str (t ++ [114, 101, 113, 117, 105, 114, 101, 32, 120, 32, 118, 49, 10])) := v_sadd (by simp; omega)
      have e2 : (t ++ [114, 101, 113, 117, 105, 114, 101, 32, 120, 32, 118, 49, 10] : Bytes) = t ++ ([114, 101, 113, 117, 105, 114, 101, 32, 120, 32, 118, 49] ++ [10]) := by simp
      rw [e2] at a2
      simp only [yy, if_neg (show ¬ ((i : Int) < (fs.length : Int)) by omega), a2, hp2, hcat, hsame]
  | succ n ih =>
    intro i t reps hi hf hr hrl
    have hlt : i < fs.length := by omega
    have hld : i < ds.length := by omega
    rw [w.seichelaw17_ModfileMakes_51]; unfold y.seichelaw17_ModfileMakes_51
    have hw1 := v.word (e := e) fs[i] (hfl _ (List.getElem_mem hlt))
    have hw2 := v.word (e := e) ds[i] (hdl _ (List.getElem_mem hld))
    cases b1 : wordB fs[i] with
    | false =>
      rw [b1] at hw1
      simp only [yy, if_pos (show (i : Int) < (fs.length : Int) by omega), v_get hlt, v_lds, hw1, Bool.not_false]
    | true =>
      rw [b1] at hw1
      have hgd : evp (.elem 1) [strs ds, .int .i64 (i : Int)] = some (.str ds[i]) := v_get hld
      cases b2 : wordB ds[i] with
      | false =>
        rw [b2] at hw2
        simp only [yy, if_pos (show (i : Int) < (fs.length : Int) by omega), v_get hlt, v_lds, hw1, Bool.not_true, hgd, hw2, Bool.not_false]
      | true =>
        rw [b2] at hw2
        have W1 := wd_of b1
        have W2 := wd_of b2
        have h4 := hf.len
        have h74 := v.M74 (e := e) fs ds hl hd hfl hdl b path lv t (by omega) i hlt W1.len W2.len reps (by omega) (some (.bool true)) (fun hnot => by
          obtain ⟨f1, f2, f3⟩ := lineOf_facts (b := b) W1 W2
          have hany := take_any hr hnot
          refine ih (i + 1) _ _ (by omega) (hf.more (lineOf b fs[i] ds[i]) f1 (lineOf_ok (m := stM path lv reps b) W1 W2 rfl hany) f2 f3) ?_ (by simp; omega)
          rw [List.map_append, hr, List.take_add_one, List.getElem?_eq_getElem hlt]; rfl) (fun _ => rfl) i 0 (by omega) (by simp)
        simp only [yy, if_pos (show (i : Int) < (fs.length : Int) by omega), v_get hlt, v_lds, hw1, Bool.not_true, hgd, hw2]
        exact h74
end Go.Proofs.YtanocopjancaiaaDoor
/-
  V8: the law ModfileOrder. Own work of this seat.
-/
namespace Go.Proofs.YtanocopjancaiaaDoor
open Go.Abs
set_option maxRecDepth 10000
variable {e : Nat → List V → Option V}
theorem line_modG {p : Bytes} {m : MSt} (hp : Wd p) (hb : m.block = []) (h0 : m.path = []) : lineB (wordsOf (lMod p)) m = (true, { m with path := p }) := by
  rw [words_mod hp, lineB_cons, if_neg (by simp [hb]), if_neg (by
    intro h
    have := (List.cons.inj h).1
    have h2 := hp.range 40 (by rw [this]; simp)
    simp at h2), verbB, if_pos (by decide), if_pos ⟨rfl, hp.good, h0⟩]; rfl
theorem parse_last {ls : List Bytes} {x : Bytes} {m : MSt} (h10 : ∀ l ∈ ls, (10 : UInt8) ∉ l) (hx : (10 : UInt8) ∉ x) (h : runL (ls ++ [x]) m0 = some m) (hb : m.block = []) (hp : m.path ≠ []) : parseM (unl ls ++ x) = ⟨m.path, m.level, m.reps, 0⟩ := by
  unfold parseM
  rw [split_unl x ls h10, split_one 10 x hx]
  have := goM_run (ls ++ [x]).length [] (ls ++ [x]) 0 m0 m h
  rw [List.append_nil] at this
  rw [this, goM, if_neg (by rintro (h | h); exact h hb; exact hp h)]
theorem words_v1 {o : Bytes} (ho : Wd o) (k : Bytes) (hk : k.all (fun c => !blankB3 c) = true) (hne : k ≠ []) (hd : dbl k = false) : wordsOf (k ++ 32 :: (o ++ [32, 118, 49])) = [k, o, [118, 49]] := by
  have hh : (o ++ [32, 118, 49] : Bytes).headD 0 ≠ 47 := by
    have := ho.hd
    have hn := ho.ne
    cases o with
    | nil => exact absurd rfl hn
    | cons a r => simpa using this
  have h1 : dbl (o ++ [32, 118, 49]) = false := dbl_pre _ _ ho.db (by decide) (by decide)
  have h2 : dbl (k ++ 32 :: (o ++ [32, 118, 49])) = false := by
    refine dbl_pre _ _ hd ?_ (by simp)
    rw [dbl, h1]; rfl
  unfold wordsOf
  rw [cut_id h2, fld_w blankB3 k (nb_of hk) hne 32 (by decide)]
  show k :: fldB blankB3 (o ++ 32 :: [118, 49]) [] = _
  rw [fld_w blankB3 o ho.nb ho.ne 32 (by decide), fld_e blankB3 [118, 49] (nb_of (by decide)) (by decide)]
theorem words_v0 {o : Bytes} (ho : Wd o) (k : Bytes) (hk : k.all (fun c => !blankB3 c) = true) (hne : k ≠ []) (hd : dbl k = false) : wordsOf (k ++ 32 :: o) = [k, o] := by
  have h2 : dbl (k ++ 32 :: o) = false := by
    refine dbl_pre _ _ hd ?_ (by simp)
    rw [dbl, ho.db]; rfl
  unfold wordsOf
  rw [cut_id h2, fld_w blankB3 k (nb_of hk) hne 32 (by decide), fld_e blankB3 o ho.nb ho.ne]
def kExc : Bytes := [101, 120, 99, 108, 117, 100, 101]
def kRet : Bytes := [114, 101, 116, 114, 97, 99, 116]
theorem line_reqO {o : Bytes} {m : MSt} (ho : Wd o) (hb : m.block = []) : lineB (wordsOf ([114, 101, 113, 117, 105, 114, 101, 32] ++ o ++ [32, 118, 49])) m = (true, m) := by
  have := words_v1 ho kReq (by decide) (by decide) (by decide)
  rw [show ([114, 101, 113, 117, 105, 114, 101, 32] ++ o ++ [32, 118, 49] : Bytes) = kReq ++ 32 :: (o ++ [32, 118, 49]) by simp [kReq], this, lineB_cons, if_neg (by simp [hb]), if_neg (by simp), verbB, if_neg (by decide), if_neg (by decide), if_neg (by decide), if_pos (by decide)]; rfl
theorem line_exc {o : Bytes} {m : MSt} (ho : Wd o) (hb : m.block = []) : lineB (wordsOf ([101, 120, 99, 108, 117, 100, 101, 32] ++ o ++ [32, 118, 49])) m = (true, m) := by
  have := words_v1 ho kExc (by decide) (by decide) (by decide)
  rw [show ([101, 120, 99, 108, 117, 100, 101, 32] ++ o ++ [32, 118, 49] : Bytes) = kExc ++ 32 :: (o ++ [32, 118, 49]) by simp [kExc], this, lineB_cons, if_neg (by simp [hb]), if_neg (by simp), verbB, if_neg (by decide), if_neg (by decide), if_neg (by decide), if_pos (by decide)]; rfl
theorem line_ret {o : Bytes} {m : MSt} (ho : Wd o) (hb : m.block = []) : lineB (wordsOf ([114, 101, 116, 114, 97, 99, 116, 32] ++ o)) m = (true, m) := by
  have := words_v0 ho kRet (by decide) (by decide) (by decide)
  have h40 : ¬ ([o] : List Bytes) = [[40]] := fun h => by
    have h1 := (List.cons.inj h).1
    have h2 := ho.range 40 (by rw [h1]; simp)
    simp at h2
  rw [show ([114, 101, 116, 114, 97, 99, 116, 32] ++ o : Bytes) = kRet ++ 32 :: o by simp [kRet], this, lineB_cons, if_neg (by simp [hb]), if_neg h40, verbB, if_neg (by decide), if_neg (by decide), if_neg (by decide), if_pos (by decide)]; rfl
/-- what stands ahead, or behind, and may be read from any state on -/
structure FitsT (t : Bytes) (R : List (Bytes × Bytes)) (k : Nat) : Prop where
  ls : ∃ ls, t = unl ls ∧ (∀ l ∈ ls, (10 : UInt8) ∉ l) ∧ ∀ m : MSt, m.block = [] → m.reps = [] → runL ls m = some { m with reps := R }
  asc : ascB t = true
  len : t.length ≤ 300 * k
theorem FitsT.more {t : Bytes} {R R' : List (Bytes × Bytes)} {k : Nat} (h : FitsT t R k) (l : Bytes) (h10 : (10 : UInt8) ∉ l) (hl : ∀ m : MSt, m.block = [] → m.reps = R → lineB (wordsOf l) m = (true, { m with reps := R' })) (ha : ascB l = true) (hn : l.length ≤ 299) : FitsT (t ++ (l ++ [10])) R' (k + 1) := by
  obtain ⟨⟨ls, rfl, h1, h2⟩, h3, h4⟩ := h
  refine ⟨⟨ls ++ [l], ?_, fun x hx => ?_, fun m hb hr => ?_⟩, ?_, ?_⟩
  · rw [unl_app]; rfl
  · rcases List.mem_append.1 hx with hx | hx
    · exact h1 x hx
    · simp at hx; rw [hx]; exact h10
  · rw [runL_app, h2 m hb hr]
    show runL [l] { m with reps := R } = _
    rw [runL, hl { m with reps := R } hb rfl, if_pos rfl]; rfl
  · rw [asc_app, asc_app, h3, ha]; rfl
  · simp at h4 ⊢; omega
theorem FitsT.ahead {t : Bytes} {R : List (Bytes × Bytes)} {k : Nat} (h : FitsT t R k) (l : Bytes) (h10 : (10 : UInt8) ∉ l) (hl : ∀ m : MSt, m.block = [] → lineB (wordsOf l) m = (true, m)) (ha : ascB l = true) (hn : l.length ≤ 299) : FitsT ((l ++ [10]) ++ t) R (k + 1) := by
  obtain ⟨⟨ls, rfl, h1, h2⟩, h3, h4⟩ := h
  refine ⟨⟨l :: ls, by simp [unl], fun x hx => ?_, fun m hb hr => ?_⟩, ?_, ?_⟩
  · rcases List.mem_cons.1 hx with rfl | hx
    · exact h10
    · exact h1 x hx
  · rw [runL, hl m hb, if_pos rfl]; exact h2 m hb hr
  · rw [asc_app, asc_app, h3, ha]; rfl
  · simp at h4 ⊢; omega
theorem w100 : Wd [100] := wd_of (by decide)
theorem digB_one {n : Nat} (h : n < 10) : digB n = [UInt8.ofNat (48 + n)] := by
  have : ∀ n, n < 10 → digB n = [UInt8.ofNat (48 + n)] := by decide
  exact this n h
theorem dig_facts (k : Nat) (hk : k < 10000) : (10 : UInt8) ∉ digB k ∧ ascB (digB k) = true := by
  have hm := dig_mem k
  refine ⟨fun h => by have := hm _ h; simp at this, ?_⟩
  unfold ascB; rw [List.all_eq_true]; intro c hc; have := hm c hc; simp; omega
theorem lineO_facts {a o b : Bytes} (ho : Wd o) (ha : (10 : UInt8) ∉ a) (hb : (10 : UInt8) ∉ b) (a2 : ascB a = true) (b2 : ascB b = true) (hl : a.length + b.length ≤ 100) : (10 : UInt8) ∉ a ++ o ++ b ∧ ascB (a ++ o ++ b) = true ∧ (a ++ o ++ b).length ≤ 299 := by
  have := ho.len
  refine ⟨?_, ?_, by simp; omega⟩
  · intro h
    simp only [List.mem_append] at h
    rcases h with (h | h) | h
    · exact ha h
    · exact ho.n10 h
    · exact hb h
  · rw [asc_app, asc_app, a2, b2, ho.asc]; rfl
theorem v.O76 (he : EnvM e) (path : Bytes) (hp : Wd path) (k : Nat) (hk : k < 10) (R : List (Bytes × Bytes)) (hR : R.length ≤ 1000) (os : List Bytes) (hl : os.length ≤ 20) (hfl : ∀ x ∈ os, x.length ≤ 1048576) :
    ∀ (n i : Nat) (s t : Bytes), i + n = os.length → Fits s (stM path k R false) (20 + i) → FitsT t R (20 + 2 * i) →
    vl e 5 76 [.str path, I k, .str (digB k), .str s, .str t, strs os, I os.length, I i] = some (.bool true) := by
  intro n
  induction n with
  | zero =>
    intro i s t hi hs ht
    have hsl := hs.len
    have htl := ht.len
    have hpl := hp.len
    obtain ⟨_, _, hdl⟩ := dig_ok (n := k) (by omega)
    obtain ⟨d10, dasc⟩ := dig_facts k (by omega)
    rw [w.seichelaw17_ModfileOrder_76]; unfold y.seichelaw17_ModfileOrder_76
    have p1 : vl e 8 0 [.str s] = some (resM ⟨path, k, R, 0⟩) := by
      obtain ⟨⟨ls, rfl, h1, h2⟩, h3, h4⟩ := hs
      have hpar := v.Parse he (unl ls) (by omega) (ok_text h3)
      rw [parse_unl h1 h2 rfl hp.ne] at hpar
      exact hpar
    have a1 : evp (.bin .add .no) [.str t, .str [103, 111, 32, 49, 46]] = some (.str (t ++ [103, 111, 32, 49, 46])) := v_sadd (by simp; omega)
    have a2 : evp (.bin .add .no) [.str (t ++ [103, 111, 32, 49, 46]), .str (digB k)] = some (.str (t ++ [103, 111, 32, 49, 46] ++ digB k)) := v_sadd (by simp; omega)
    have a3 : evp (.bin .add .no) [.str (t ++ [103, 111, 32, 49, 46] ++ digB k), .str [10, 109, 111, 100, 117, 108, 101, 32]] = some (.str (t ++ [103, 111, 32, 49, 46] ++ digB k ++ [10, 109, 111, 100, 117, 108, 101, 32])) := v_sadd (by simp; omega)
    have a4 : evp (.bin .add .no) [.str (t ++ [103, 111, 32, 49, 46] ++ digB k ++ [10, 109, 111, 100, 117, 108, 101, 32]), .str path] = some (.str (t ++ [103, 111, 32, 49, 46] ++ digB k ++ [10, 109, 111, 100, 117, 108, 101, 32] ++ path)) := v_sadd (by simp; omega)
    have p2 : vl e 8 0 [.str (t ++ [103, 111, 32, 49, 46] ++ digB k ++ [10, 109, 111, 100, 117, 108, 101, 32] ++ path)] = some (resM ⟨path, k, R, 0⟩) := by
      obtain ⟨⟨lt, rfl, h1, h2⟩, h3, h4⟩ := ht
      have e1 : (unl lt ++ [103, 111, 32, 49, 46] ++ digB k ++ [10, 109, 111, 100, 117, 108, 101, 32] ++ path : Bytes) = unl (lt ++ [lGo (digB k)]) ++ lMod path := by rw [unl_app]; simp [unl]
      have hasc : ascB (unl lt ++ [103, 111, 32, 49, 46] ++ digB k ++ [10, 109, 111, 100, 117, 108, 101, 32] ++ path) = true := by
        simp only [asc_app, h3, dasc, hp.asc]; decide
      have hpar := v.Parse he (unl lt ++ [103, 111, 32, 49, 46] ++ digB k ++ [10, 109, 111, 100, 117, 108, 101, 32] ++ path) (by simp; omega) (ok_text hasc)
      rw [hpar, e1]
      rw [parse_last (m := ⟨path, k, R, [], true⟩) ?_ ?_ ?_ rfl hp.ne]
      · intro l hl
        rcases List.mem_append.1 hl with hl | hl
        · exact h1 l hl
        · simp only [List.mem_singleton] at hl
          rw [hl]
          intro h
          rcases List.mem_append.1 h with h | h
          · simp at h
          · exact d10 h
      · intro h
        rcases List.mem_append.1 h with h | h
        · simp at h
        · exact hp.n10 h
      · rw [runL_app, runL_app, h2 m0 rfl rfl]
        show (runL [lGo (digB k)] { m0 with reps := R }).bind _ = _
        rw [runL, line_go (by omega) rfl rfl, if_pos rfl]
        show runL [lMod path] { m0 with reps := R, level := k, gone := true } = _
        rw [runL, line_modG hp rfl rfl, if_pos rfl]; rfl
    have hsame := v.Same (e := e) ⟨path, k, R, 0⟩ (by show R.length ≤ 1000000; omega)
    have c4 : evp (.cat [some 4]) [resM ⟨path, k, R, 0⟩] = some (resM ⟨path, k, R, 0⟩) := rfl
    have l3 : evp (.ld none 3) [resM ⟨path, k, R, 0⟩] = some (I 0) := rfl
    have l0 : evp (.ld none 0) [resM ⟨path, k, R, 0⟩] = some (.str path) := rfl
    have l1 : evp (.ld none 1) [resM ⟨path, k, R, 0⟩] = some (I k) := rfl
    simp only [yy, if_neg (show ¬ ((i : Int) < (os.length : Int)) by omega), p1, a1, a2, a3, a4, p2, c4, l3, l0, l1, if_true, hsame]
  | succ n ih =>
    intro i s t hi hs ht
    have hlt : i < os.length := by omega
    have hsl := hs.len
    have htl := ht.len
    rw [w.seichelaw17_ModfileOrder_76]; unfold y.seichelaw17_ModfileOrder_76
    have hw := v.word (e := e) os[i] (hfl _ (List.getElem_mem hlt))
    cases b1 : wordB os[i] with
    | false =>
      rw [b1] at hw
      simp only [yy, if_pos (show (i : Int) < (os.length : Int) by omega), v_get hlt, v_lds, hw, Bool.not_false]
    | true =>
      rw [b1] at hw
      have W := wd_of b1
      have hih := ih (i + 1)
      have hgt := v_get hlt
      generalize os[i] = o at hw W hgt
      have hol := W.len
      obtain ⟨r1, r2, r3⟩ := lineO_facts (a := [114, 101, 113, 117, 105, 114, 101, 32]) (b := [32, 118, 49]) W (by decide) (by decide) (by decide) (by decide) (by decide)
      obtain ⟨x1, x2, x3⟩ := lineO_facts (a := [101, 120, 99, 108, 117, 100, 101, 32]) (b := [32, 118, 49]) W (by decide) (by decide) (by decide) (by decide) (by decide)
      obtain ⟨y1, y2, y3⟩ := lineO_facts (a := [114, 101, 116, 114, 97, 99, 116, 32]) (b := []) W (by decide) (by decide) (by decide) (by decide) (by decide)
      rw [List.append_nil] at y1 y2 y3
      have f1 := hs.more _ r1 (line_reqO W rfl) r2 r3
      have f2 := (ht.ahead _ x1 (fun m hb => line_exc W hb) x2 x3).more (R' := R) _ y1 (fun m hb hr => by rw [line_ret W hb]; cases m; cases hr; rfl) y2 y3
      have hfin := hih _ _ (by omega) f1 ⟨f2.ls, f2.asc, by have := f2.len; omega⟩
      have a1 : evp (.bin .add .no) [.str s, .str [114, 101, 113, 117, 105, 114, 101, 32]] = some (.str (s ++ [114, 101, 113, 117, 105, 114, 101, 32])) := v_sadd (by simp; omega)
      have a2 : evp (.bin .add .no) [.str (s ++ [114, 101, 113, 117, 105, 114, 101, 32]), .str o] = some (.str (s ++ [114, 101, 113, 117, 105, 114, 101, 32] ++ o)) := v_sadd (by simp; omega)
      have a3 : evp (.bin .add .no) [.str (s ++ [114, 101, 113, 117, 105, 114, 101, 32] ++ o), .str [32, 118, 49, 10]] = some (.str (s ++ [114, 101, 113, 117, 105, 114, 101, 32] ++ o ++ [32, 118, 49, 10])) := v_sadd (by simp; omega)
      have a4 : evp (.bin .add .no) [.str [101, 120, 99, 108, 117, 100, 101, 32], .str o] = some (.str ([101, 120, 99, 108, 117, 100, 101, 32] ++ o)) := v_sadd (by simp; omega)
      have a5 : evp (.bin .add .no) [.str ([101, 120, 99, 108, 117, 100, 101, 32] ++ o), .str [32, 118, 49, 10]] = some (.str ([101, 120, 99, 108, 117, 100, 101, 32] ++ o ++ [32, 118, 49, 10])) := v_sadd (by simp; omega)
      have a6 : evp (.bin .add .no) [.str ([101, 120, 99, 108, 117, 100, 101, 32] ++ o ++ [32, 118, 49, 10]), .str t] = some (.str ([101, 120, 99, 108, 117, 100, 101, 32] ++ o ++ [32, 118, 49, 10] ++ t)) := v_sadd (by simp; omega)
      have a7 : evp (.bin .add .no) [.str ([101, 120, 99, 108, 117, 100, 101, 32] ++ o ++ [32, 118, 49, 10] ++ t), .str [114, 101, 116, 114, 97, 99, 116, 32]] = some (.str ([101, 120, 99, 108, 117, 100, 101, 32] ++ o ++ [32, 118, 49, 10] ++ t ++ [114, 101, 116, 114, 97, 99, 116, 32])) := v_sadd (by simp; omega)
      have a8 : evp (.bin .add .no) [.str ([101, 120, 99, 108, 117, 100, 101, 32] ++ o ++ [32, 118, 49, 10] ++ t ++ [114, 101, 116, 114, 97, 99, 116, 32]), .str o] = some (.str ([101, 120, 99, 108, 117, 100, 101, 32] ++ o ++ [32, 118, 49, 10] ++ t ++ [114, 101, 116, 114, 97, 99, 116, 32] ++ o)) := v_sadd (by simp; omega)
      have a9 : evp (.bin .add .no) [.str ([101, 120, 99, 108, 117, 100, 101, 32] ++ o ++ [32, 118, 49, 10] ++ t ++ [114, 101, 116, 114, 97, 99, 116, 32] ++ o), .str [10]] = some (.str ([101, 120, 99, 108, 117, 100, 101, 32] ++ o ++ [32, 118, 49, 10] ++ t ++ [114, 101, 116, 114, 97, 99, 116, 32] ++ o ++ [10])) := v_sadd (by simp; omega)
      simp only [yy, if_pos (show (i : Int) < (os.length : Int) by omega), hgt, v_lds, hw, Bool.not_true, a1, a2, a3, a4, a5, a6, a7, a8, a9, next64 hlt (by omega)]
      rw [← hfin]
      simp
theorem v.O51 (fs : List Bytes) (hl : fs.length ≤ 20) (path : V) (lv os dg_ : V) (s t : Bytes) (hs : s.length ≤ 100000) (ht : t.length ≤ 100000) (i : Nat) (hi : i < fs.length) (h1 : (fs[i]).length ≤ 100) (R : Option V)
    (hR : fs[i] ∉ fs.take i → vl e 5 28 [path, lv, strs fs, os, dg_, .str (s ++ (lineOf false fs[i] [100] ++ [10])), .str (t ++ (lineOf false fs[i] [100] ++ [10])), strs fs, I fs.length, I (i + 1 : Nat)] = R) (hT : fs[i] ∈ fs.take i → R = some (.bool true)) :
    ∀ (n k : Nat), k + n = i → fs[i] ∉ fs.take k → vl e 5 51 [path, lv, strs fs, os, dg_, .str s, .str t, I i, .str fs[i], I k, strs fs, I fs.length, I i] = R := by
  intro n
  induction n with
  | zero =>
    intro k hk hnot
    obtain rfl : k = i := by omega
    have hR' := hR hnot
    rw [w.seichelaw17_ModfileOrder_51]; unfold y.seichelaw17_ModfileOrder_51
    have hnx := next64 hi (by omega)
    generalize hF : fs[k] = F at *
    have add : ∀ a b : Bytes, a.length + b.length ≤ 4611686018427387904 → evp (.bin .add .no) [.str a, .str b] = some (.str (a ++ b)) := fun a b h => v_sadd h
    simp only [yy, if_neg (show ¬ ((k : Int) < (k : Int)) by omega), add s [114, 101, 112, 108, 97, 99, 101, 32] (by simp; omega), add (s ++ [114, 101, 112, 108, 97, 99, 101, 32]) F (by simp; omega), add (s ++ [114, 101, 112, 108, 97, 99, 101, 32] ++ F) [32, 61, 62, 32, 46, 47, 100, 10] (by simp; omega), add t [114, 101, 112, 108, 97, 99, 101, 32] (by simp; omega), add (t ++ [114, 101, 112, 108, 97, 99, 101, 32]) F (by simp; omega), add (t ++ [114, 101, 112, 108, 97, 99, 101, 32] ++ F) [32, 61, 62, 32, 46, 47, 100, 10] (by simp; omega), hnx]
    rw [← hR']
    simp [lineOf, lTo]
  | succ n ih =>
    intro k hk hnot
    have hlt : k < fs.length := by omega
    rw [w.seichelaw17_ModfileOrder_51]; unfold y.seichelaw17_ModfileOrder_51
    by_cases h : fs[k] = fs[i]
    · simp only [yy, if_pos (show (k : Int) < (i : Int) by omega), v_get hlt, v_lds, if_pos h]
      refine (hT ?_).symm
      rw [← h]
      exact List.mem_take_iff_getElem.2 ⟨k, by omega, rfl⟩
    · simp only [yy, if_pos (show (k : Int) < (i : Int) by omega), v_get hlt, v_lds, if_neg h, next64 hlt (by omega)]
      refine ih (k + 1) (by omega) ?_
      rw [List.take_add_one, List.getElem?_eq_getElem hlt]
      intro hm
      rcases List.mem_append.1 hm with hm | hm
      · exact hnot hm
      · simp at hm; exact h hm.symm
theorem v.O28 (he : EnvM e) (path : Bytes) (hp : Wd path) (k : Nat) (hk : k < 10) (fs os : List Bytes) (hl : fs.length ≤ 20) (hl2 : os.length ≤ 20) (hfl : ∀ x ∈ fs, x.length ≤ 1048576) (hol : ∀ x ∈ os, x.length ≤ 1048576) :
    ∀ (n i : Nat) (s t : Bytes) (R : List (Bytes × Bytes)), i + n = fs.length → Fits s (stM path k R false) i → FitsT t R i → R.map (·.1) = fs.take i → R.length ≤ i →
    vl e 5 28 [.str path, I k, strs fs, strs os, .str (digB k), .str s, .str t, strs fs, I fs.length, I i] = some (.bool true) := by
  intro n
  induction n with
  | zero =>
    intro i s t R hi hs ht hr hrl
    rw [w.seichelaw17_ModfileOrder_28]; unfold y.seichelaw17_ModfileOrder_28
    simp only [yy, if_neg (show ¬ ((i : Int) < (fs.length : Int)) by omega), v_lenS]
    exact v.O76 he path hp k hk R (by omega) os hl2 hol os.length 0 s t (by omega) ⟨hs.ls, hs.asc, by have := hs.len; omega⟩ ⟨ht.ls, ht.asc, by have := ht.len; omega⟩
  | succ n ih =>
    intro i s t R hi hs ht hr hrl
    have hlt : i < fs.length := by omega
    have hsl := hs.len
    have htl := ht.len
    rw [w.seichelaw17_ModfileOrder_28]; unfold y.seichelaw17_ModfileOrder_28
    have hw := v.word (e := e) fs[i] (hfl _ (List.getElem_mem hlt))
    cases b1 : wordB fs[i] with
    | false =>
      rw [b1] at hw
      simp only [yy, if_pos (show (i : Int) < (fs.length : Int) by omega), v_get hlt, v_lds, hw, Bool.not_false]
    | true =>
      rw [b1] at hw
      have W := wd_of b1
      obtain ⟨f1, f2, f3⟩ := lineOf_facts (b := false) W w100
      have h51 := v.O51 (e := e) fs hl (.str path) (I k) (strs os) (.str (digB k)) s t (by omega) (by omega) i hlt W.len (some (.bool true)) (fun hnot => by
        have hany := take_any hr hnot
        refine ih (i + 1) _ _ (R ++ [(fs[i], [46, 47] ++ [100])]) (by omega) (hs.more _ f1 (lineOf_ok (m := stM path k R false) W w100 rfl hany) f2 f3) (ht.more _ f1 (fun m hb hr' => by
          have := lineOf_ok (b := false) (m := m) W w100 hb (by rw [hr']; exact hany)
          rw [this, hr']) f2 f3) ?_ (by simp; omega)
        rw [List.map_append, hr, List.take_add_one, List.getElem?_eq_getElem hlt]; rfl) (fun _ => rfl) i 0 (by omega) (by simp)
      simp only [yy, if_pos (show (i : Int) < (fs.length : Int) by omega), v_get hlt, v_lds, hw, Bool.not_true]
      exact h51
theorem p_modfileOrder (he : EnvM e) (path : Bytes) (level : Int) (from_ others : List Bytes) (hp : (V.str path).wt ≤ 1048576) (_ : -9223372036854775808 ≤ level) (_ : level ≤ 9223372036854775807) (hf : (strs from_).wt ≤ 1048576) (hd : (strs others).wt ≤ 1048576) :
    vl e 5 0 [.str path, I level, strs from_, strs others] = some (.bool true) := by
  have hpl := wt_str hp
  obtain ⟨f1, f2⟩ := wt_sl (E := V.str) hf
  obtain ⟨d1, d2⟩ := wt_sl (E := V.str) hd
  rw [w.seichelaw17_ModfileOrder]; unfold y.seichelaw17_ModfileOrder
  have out : vl e 5 15 [.str path, I level, strs from_, strs others, .bool true] = some (.bool true) := by
    rw [w.seichelaw17_ModfileOrder_15]; unfold y.seichelaw17_ModfileOrder_15; simp only [yy, ]
  have hw := v.word (e := e) path hpl
  simp only [yy, v.alive17 he, hw, v_lenS]
  cases hb : wordB path with
  | false => exact out
  | true =>
    by_cases h1 : level < 0
    · simp only [Bool.not_true, vif_f, if_pos h1]; exact out
    · by_cases h2 : 9 < level
      · simp only [Bool.not_true, vif_f, if_neg h1, if_pos h2]; exact out
      · by_cases h3 : (20 : Int) < (from_.length : Int)
        · simp only [Bool.not_true, vif_f, if_neg h1, if_neg h2, if_pos h3]; exact out
        · by_cases h4 : (20 : Int) < (others.length : Int)
          · simp only [Bool.not_true, vif_f, if_neg h1, if_neg h2, if_neg h3, decide_eq_true h4]; exact out
          · simp only [Bool.not_true, vif_f, if_neg h1, if_neg h2, if_neg h3, decide_eq_false h4]
            obtain ⟨k, rfl⟩ : ∃ k : Nat, level = k := ⟨level.toNat, by omega⟩
            have hk : k < 10 := by omega
            have W := wd_of hb
            have hpl := W.len
            obtain ⟨_, _, hdl⟩ := dig_ok (n := k) (by omega)
            rw [w.seichelaw17_ModfileOrder_15]; unfold y.seichelaw17_ModfileOrder_15
            have hi2 : evp (.i2i .u8) [.int .i64 (IntKind.i64.wrap (48 + ((k : Nat) : Int)))] = some (.int .u8 ((UInt8.ofNat (48 + k)).toNat : Int)) := by
              rw [← byte48 _ hk]; rfl
            have hb2s : evp .b2s [.sl false 1 [byteV (UInt8.ofNat (48 + k))]] = some (.str (digB k)) := by rw [digB_one hk]; exact v_b2s (l := [UInt8.ofNat (48 + k)])
            have a1 : evp (.bin .add .no) [.str [109, 111, 100, 117, 108, 101, 32], .str path] = some (.str ([109, 111, 100, 117, 108, 101, 32] ++ path)) := v_sadd (by simp; omega)
            have a2 : evp (.bin .add .no) [.str ([109, 111, 100, 117, 108, 101, 32] ++ path), .str [10, 103, 111, 32, 49, 46]] = some (.str ([109, 111, 100, 117, 108, 101, 32] ++ path ++ [10, 103, 111, 32, 49, 46])) := v_sadd (by simp; omega)
            have a3 : evp (.bin .add .no) [.str ([109, 111, 100, 117, 108, 101, 32] ++ path ++ [10, 103, 111, 32, 49, 46]), .str (digB k)] = some (.str ([109, 111, 100, 117, 108, 101, 32] ++ path ++ [10, 103, 111, 32, 49, 46] ++ digB k)) := v_sadd (by simp; omega)
            have a4 : evp (.bin .add .no) [.str ([109, 111, 100, 117, 108, 101, 32] ++ path ++ [10, 103, 111, 32, 49, 46] ++ digB k), .str [10]] = some (.str ([109, 111, 100, 117, 108, 101, 32] ++ path ++ [10, 103, 111, 32, 49, 46] ++ digB k ++ [10])) := v_sadd (by simp; omega)
            simp only [yy, hi2, v_one8, hb2s, a1, a2, a3, a4, v_lenS]
            obtain ⟨d10, dasc⟩ := dig_facts k (by omega)
            refine v.O28 he path W k hk from_ others (by omega) (by omega) (fun x hx => wt_str (f2 x hx)) (fun x hx => wt_str (d2 x hx)) from_.length 0 _ [] [] (by omega) ⟨⟨[lMod path, lGo (digB k)], by simp [unl], ?_, ?_⟩, ?_, by simp; omega⟩ ⟨⟨[], rfl, (fun l hl => by cases hl), fun m _ hr => by rw [runL]; cases m; cases hr; rfl⟩, rfl, by simp⟩ rfl (Nat.le_refl _)
            · intro l hl
              simp only [List.mem_cons, List.not_mem_nil, or_false] at hl
              rcases hl with rfl | rfl
              · intro h
                rcases List.mem_append.1 h with h | h
                · simp at h
                · exact W.n10 h
              · intro h
                rcases List.mem_append.1 h with h | h
                · simp at h
                · exact d10 h
            · rw [runL, line_mod W, if_pos rfl]
              show runL [lGo (digB k)] { m0 with path := path } = _
              rw [runL, line_go (by omega) rfl rfl, if_pos rfl]; rfl
            · simp only [asc_app, W.asc, dasc]; decide
end Go.Proofs.YtanocopjancaiaaDoor
/-
  YEm: functions that are given by contracts, for the reader of go.mod. Own work of this seat.
-/
namespace Go.Proofs.YtanocopjancaiaaDoor
open Go.Abs Go.RowKit
def exts : List FC := [K.strings_Split, K.strings_Index, K.strings_FieldsFunc_3, K.strings_ContainsAny, K.strconv_Atoi, K.strconv_Itoa]
theorem exts_ok (w : World) (hw : EnvE w) : ∀ c ∈ exts, c.Holds (cxD w) := by
  intro c hc
  simp only [exts, List.mem_cons, List.not_mem_nil, or_false] at hc
  rcases hc with rfl | rfl | rfl | rfl | rfl | rfl
  · exact H.strings_Split w hw.toOK
  · exact H.strings_Index w hw.toOK
  · exact H.strings_FieldsFunc_3 w hw.toOK
  · exact H.strings_ContainsAny w hw.toOK
  · exact H.strconv_Atoi w hw
  · exact H.strconv_Itoa w hw
theorem exts_own : ∀ c ∈ exts, cfg.ow c.f = true → c.own = true := by
  intro c hc h
  simp only [exts, List.mem_cons, List.not_mem_nil, or_false] at hc
  rcases hc with rfl | rfl | rfl | rfl | rfl | rfl
  · rfl
  · exact absurd h (by rw [show cfg.ow K.strings_Index.f = false by kernel_rfl]; decide)
  · rfl
  · exact absurd h (by rw [show cfg.ow K.strings_ContainsAny.f = false by kernel_rfl]; decide)
  · exact absurd h (by rw [show cfg.ow K.strconv_Atoi.f = false by kernel_rfl]; decide)
  · exact absurd h (by rw [show cfg.ow K.strconv_Itoa.f = false by kernel_rfl]; decide)
theorem envX : EnvM (extOf exts) where
  split s c hs := extOf_eq (cs := exts) (c := K.strings_Split) rfl ⟨(s, [c]), splitOn c s, rfl, by simp [g.strings_Split, hs], rfl⟩
  index s c hs := extOf_eq (cs := exts) (c := K.strings_Index) rfl ⟨(s, c), Lib.index s c, rfl, by simp [g.strings_Index, hs], rfl⟩
  fields s hs := extOf_eq (cs := exts) (c := K.strings_FieldsFunc_3) rfl ⟨s, fldB blankB3 s [], rfl, by simp [g.strings_FieldsFunc_3, hs], rfl⟩
  cany s hs hc := extOf_eq (cs := exts) (c := K.strings_ContainsAny) rfl ⟨(s, chars9), s.any fun b => chars9.contains b, rfl, if_pos ⟨hs, by show chars9.length < _; decide, hc, by show ascB chars9 = true; decide⟩, rfl⟩
  atoi s hs := extOf_eq (cs := exts) (c := K.strconv_Atoi) rfl ⟨s, atoiV s, rfl, by simp [g.strconv_Atoi, hs], rfl⟩
  itoa n h0 h1 := extOf_eq (cs := exts) (c := K.strconv_Itoa) rfl ⟨n, Lib.itoa n, rfl, by simp [g.strconv_Itoa, h0, h1], rfl⟩
end Go.Proofs.YtanocopjancaiaaDoor
/-
  GL: package tables that a row's premise lays: what they read as. Own work of this seat.
-/
namespace Go.Proofs.YtanocopjancaiaaDoor
open Go.Abs Go.RowKit Go.ChangeShapes Go.WideShapes
section
variable {P : Program} {w : World}
theorem laid_mem {n : String} {d : DataW Unit} : ∀ {l : List (String × DataW Unit)} {ps : List MemPlace}, DataW.LaidVars P w l ps → (n, d) ∈ l →
    ∃ g t cs fuel p, P.globalNamed n = some g ∧ (P.globals[g]?).map (·.type) = some t ∧ w.var? P n = some cs ∧ DataW.trod (fun _ => ()) P w 0 (fun _ => true) false fuel t cs.toList = some (d, p)
  | [], _, _, h => by cases h
  | (m, c) :: r, ps, hl, h => by
    obtain ⟨g, t, cs, fuel, p, q, h1, h2, h3, h4, h5, _⟩ := hl
    rcases List.mem_cons.1 h with e | h
    · cases e; exact ⟨g, t, cs, fuel, p, h1, h2, h3, h4⟩
    · exact laid_mem h5 h
theorem var_cells {n : String} {g : Nat} {cs : Array Value} (hg : P.globalNamed n = some g) (h : w.var? P n = some cs) : ∃ t x, w.heap[g]? = some (.cells cs t x) := by
  unfold World.var? at h
  rw [hg, Option.bind_some] at h
  split at h
  · rename_i c t x hx; cases h; exact ⟨t, x, hx⟩
  · cases h
theorem trod_int {enc : TypeId × Value → Unit} {held : Bool} {fuel : Nat} {e : TypeId} {k k' : IntKind} {cs : List Value} {n : Int} {p : List MemPlace} (he : P.underlying e = some (.int k)) (h : DataW.trod enc P w 0 (fun _ => true) held fuel e cs = some (.lit (.int k' n), p)) : cs = [.int k n] ∧ k' = k := by
  cases fuel with
  | zero => simp [DataW.trod] at h
  | succ m =>
    unfold DataW.trod at h
    rw [he] at h
    split at h <;> simp_all
theorem trod_str {enc : TypeId × Value → Unit} {held : Bool} {fuel : Nat} {e : TypeId} {cs : List Value} {s : Bytes} {p : List MemPlace} (he : P.underlying e = some .string) (h : DataW.trod enc P w 0 (fun _ => true) held fuel e cs = some (.lit (.string s), p)) : ∃ b : ByteArray, cs = [.string b] ∧ b.data.toList = s := by
  cases fuel with
  | zero => simp [DataW.trod] at h
  | succ m =>
    unfold DataW.trod at h
    rw [he] at h
    split at h <;> simp_all
/-- a table of numbers -/
theorem gl_ints {laid : List (String × DataW Unit)} {n : String} {d : DataW Unit} {g : Nat} {t e : TypeId} {k : IntKind} {m : Nat} (ns : List Int) (h : laidMet P laid w) (hm : (n, d) ∈ laid) (hg : P.globalNamed n = some g) (ht : (P.globals[g]?).map (·.type) = some t)
    (hu : P.underlying t = some (.array m e)) (he : P.underlying e = some (.int k)) (hc : P.cellsOf e = 1) (hct : P.cellsOf t = ns.length) (hd : d = .agg (ns.map fun i => .lit (.int k i))) : Row w (G0 w) (fun _ => none) (ns.map (V.int k)) g 0 ∧ (ns.map (V.int k)).length ≤ G0 w g := by
  obtain ⟨ps, hl, _, _⟩ := h
  obtain ⟨g', t', cs, fuel, p, h1, h2, h3, h4⟩ := laid_mem hl hm
  rw [hg] at h1; cases h1
  rw [ht] at h2; cases h2
  obtain ⟨t1, x1, hh⟩ := var_cells hg h3
  obtain ⟨xs, fu, _, hx, hlen, hxl, hel⟩ := DataW.trod_array hu h4
  have hxs : xs.map (·.1) = ns.map fun i => (DataW.lit (.int k i) : DataW Unit) := by
    have := (Prod.mk.inj hx).1
    rw [hd] at this
    exact (DataW.agg.inj this).symm
  have hnl : xs.length = ns.length := by have := congrArg List.length hxs; simpa using this
  have hsz : cs.size = ns.length := by rw [← hct, ← hlen]; simp
  have hcell : ∀ i, (hi : i < ns.length) → cs[i]? = some (.int k ns[i]) := by
    intro i hi
    have h5 := hel i (by omega)
    rw [hc, Nat.mul_one, List.getElem?_eq_getElem (by omega)] at h5
    have h6 : xs[i].1 = DataW.lit (.int k ns[i]) := by
      have h7 : (xs.map (·.1))[i]? = (ns.map fun i => (DataW.lit (.int k i) : DataW Unit))[i]? := by rw [hxs]
      rw [List.getElem?_map, List.getElem?_map, List.getElem?_eq_getElem (by omega), List.getElem?_eq_getElem hi] at h7
      simpa using h7
    obtain ⟨h8, _⟩ := trod_int (n := ns[i]) (p := xs[i].2) (k' := k) he (by rw [h5]; exact congrArg some (Prod.ext h6 rfl))
    have hi' : i < cs.toList.length := by simp; omega
    rw [List.drop_eq_getElem_cons hi', List.take_succ_cons, List.take_zero] at h8
    have h9 := (List.cons.inj h8).1
    rw [Array.getElem?_eq_getElem (by omega)]
    simpa using h9
  refine ⟨⟨fun c hc => ?_, fun i c hc => ?_⟩, ?_⟩
  · obtain ⟨j, _, rfl⟩ := List.mem_map.1 hc; rfl
  · rw [List.getElem?_map] at hc
    obtain ⟨j, hj, rfl⟩ := Option.map_eq_some_iff.1 hc
    obtain ⟨hi, hj⟩ := List.getElem?_eq_some_iff.1 hj
    refine ⟨.int k j, ?_, .int k j⟩
    rw [Nat.zero_add]
    simp only [World.cell?, hh]
    rw [← hj]; exact hcell i hi
  · simp only [List.length_map, G0, hh]; omega
/-- a table of texts -/
theorem gl_strs {laid : List (String × DataW Unit)} {n : String} {d : DataW Unit} {g : Nat} {t e : TypeId} (ss : List Bytes) (h : laidMet P laid w) (hm : (n, d) ∈ laid) (hg : P.globalNamed n = some g) (ht : (P.globals[g]?).map (·.type) = some t)
    (hu : P.underlying t = some (.slice e)) (he : P.underlying e = some .string) (hc : P.cellsOf e = 1) (hd : ∃ r, d = .slice (ss.map fun s => .lit (.string s)) r) (hne : ss ≠ []) : Row w (G0 w) (fun _ => none) [.sl false 1 (ss.map V.str)] g 0 ∧ ([V.sl false 1 (ss.map V.str)] : List V).length ≤ G0 w g := by
  obtain ⟨ps, hl, _, _⟩ := h
  obtain ⟨g', t', cs, fuel, p, h1, h2, h3, h4⟩ := laid_mem hl hm
  rw [hg] at h1; cases h1
  rw [ht] at h2; cases h2
  obtain ⟨t1, x1, hh⟩ := var_cells hg h3
  obtain ⟨rr, hd⟩ := hd
  rcases DataW.trod_slice hu h4 with ⟨_, hx⟩ | ⟨a, len, cap, elems, rest, fu, _, hcs, hx, _, hlc, _, hel, hget, _, _⟩
  · have := (Prod.mk.inj hx).1; rw [hd] at this; cases this
  · have hxs : elems.map (·.1) = ss.map fun s => (DataW.lit (.string s) : DataW Unit) := by
      have := (Prod.mk.inj hx).1
      rw [hd] at this
      exact (DataW.slice.inj this).1.symm
    have hnl : elems.length = ss.length := by have := congrArg List.length hxs; simpa using this
    have hcell : ∀ i, (hi : i < ss.length) → ∃ b : ByteArray, w.cell? ((a.add i).add 0) = some (.string b) ∧ b.data.toList = ss[i] := by
      intro i hi
      have h5 := hget i (by omega)
      rw [hc, Nat.mul_one, List.getElem?_eq_getElem (by omega)] at h5
      obtain ⟨cc, h51, h52⟩ := Option.bind_eq_some_iff.1 h5
      have h6 : elems[i].1 = DataW.lit (.string ss[i]) := by
        have h7 : (elems.map (·.1))[i]? = (ss.map fun s => (DataW.lit (.string s) : DataW Unit))[i]? := by rw [hxs]
        rw [List.getElem?_map, List.getElem?_map, List.getElem?_eq_getElem (by omega), List.getElem?_eq_getElem hi] at h7
        simpa using h7
      obtain ⟨b, rfl, hb⟩ := trod_str (s := ss[i]) (p := elems[i].2) he (by rw [h52]; exact congrArg some (Prod.ext h6 rfl))
      refine ⟨b, ?_, hb⟩
      have h8 := (World.cells?_some h51).2.2 0 (by decide)
      simpa using h8
    have hpos : 0 < ss.length := List.length_pos_iff.2 hne
    obtain ⟨ab, ao, am⟩ := a
    have ham : am = none := by
      obtain ⟨b, hb, _⟩ := hcell 0 hpos
      unfold World.cell? at hb
      split at hb
      · cases am with
        | none => rfl
        | some _ => simp [Addr.add] at hb
      · cases hb
    subst ham
    have hcell : ∀ i, (hi : i < ss.length) → ∃ b : ByteArray, w.cell? ⟨ab, ao + i, none⟩ = some (.string b) ∧ b.data.toList = ss[i] := by
      intro i hi
      obtain ⟨b, h1, h2⟩ := hcell i hi
      rw [addr_add, addr_add, Nat.add_zero] at h1
      exact ⟨b, h1, h2⟩
    have hsz : cs = #[.slice (some ⟨ab, ao, none⟩) len cap] := by cases cs; simp_all
    refine ⟨⟨fun c hc => ?_, fun i c hc => ?_⟩, ?_⟩
    · obtain rfl := List.mem_singleton.1 hc; rfl
    · cases i with
      | succ i => simp at hc
      | zero =>
        simp at hc; subst hc
        refine ⟨.slice (some ⟨ab, ao, none⟩) len cap, by simp [World.cell?, hh, hsz], ?_⟩
        have hlen : (ss.map V.str).length = len := by simp; omega
        have hrep := Rep.sl (W := w) (G := G0 w) (φ := fun _ => none) 1 (ss.map V.str) ab ao cap (fun k => (w.cell? ⟨ab, ao + k, none⟩).getD undef) (by omega) ?_ ?_ ?_ ?_
        · rw [hlen] at hrep; exact hrep
        · obtain ⟨b, hb, _⟩ := hcell (ss.length - 1) (by omega)
          have := (cell_lt hb).2
          simp only [List.length_map, Nat.mul_one]; omega
        · intro x hx
          obtain ⟨s, _, rfl⟩ := List.mem_map.1 hx
          exact ⟨rfl, fun c hc => by obtain rfl := List.mem_singleton.1 hc; rfl⟩
        · intro k hk
          simp only [List.length_map, Nat.mul_one] at hk
          obtain ⟨b, hb, _⟩ := hcell k hk
          have hb' : w.cell? ⟨ab, ao + k, none⟩ = some (.string b) := hb
          rw [hb']; rfl
        · intro i x j c hx hj
          rw [List.getElem?_map] at hx
          obtain ⟨s, hs, rfl⟩ := Option.map_eq_some_iff.1 hx
          obtain ⟨hi, hs⟩ := List.getElem?_eq_some_iff.1 hs
          cases j with
          | succ j => simp [V.cells] at hj
          | zero =>
            simp [V.cells] at hj; subst hj
            obtain ⟨b, hb, hbs⟩ := hcell i hi
            have hb' : w.cell? ⟨ab, ao + (i * 1 + 0), none⟩ = some (.string b) := by rw [Nat.mul_one]; exact hb
            show Rep _ _ _ _ ((w.cell? ⟨ab, ao + (i * 1 + 0), none⟩).getD undef)
            rw [hb']; exact .str s b (by rw [hbs, hs])
    · simp only [G0, hh, hsz]; simp
end
/-! ## a world with tables -/
noncomputable def cxG (gls : Nat → Option (List V)) (w : World) : Cx := ⟨Tryd.prog, w, gls⟩
theorem okw_gl {gls : Nat → Option (List V)} {w W : World} {G : Nat → Nat} (h : OKW (cxG gls w) W G) : OKW (cxD w) W G := ⟨h.below, h.Glo, h.Gz⟩
theorem pc_gl {gls : Nat → Option (List V)} {w : World} {f : FuncId} {args : List V} {r : V × Bool} (h : PC (cxD w) f args r) : PC (cxG gls w) f args r := ⟨h.1, fun W G φ xs ho hr => h.2 W G φ xs (okw_gl ho) hr⟩
theorem hold_gl {gls : Nat → Option (List V)} {w : World} {c : FC} (h : c.Holds (cxD w)) : c.Holds (cxG gls w) := fun args y hr => by
  obtain ⟨v, o, h1, h2⟩ := h args y hr
  exact ⟨v, o, pc_gl h1, h2⟩
theorem gl_met {laid : List (String × DataW Unit)} {w : World} (h : laidMetH Tryd.prog laid w) (hn : (laid.filter fun x => x.2.handleName?.isSome) = []) : laidMet Tryd.prog laid w := by
  unfold laidMetH at h
  rw [hn] at h; exact h
end Go.Proofs.YtanocopjancaiaaDoor
