/-
  L47: each system of seven points, as a Latin square.
  Conditions: none; plain laws.
-/
import Derived.Test.YtjneiglpfdkehaaDoorL46
import Derived.KernelRfl
namespace Go.Gl
open Go Go.Gx Go.Gm
set_option maxRecDepth 100000
/-- What is asked behind the search, of the system that it gives. -/
def restG (n : Nat) (p : Int) (B : List (List Int)) : Option (Bool) :=
      chk ((49 : Int) = 49) <|
      chk (0 ≤ (49 : Int)) <|
      chk ((49 : Int) < 2 ^ 40) <|
      top_TopSteiner_l9 n p B 7 (List.replicate 49 (0 : Int)) 0 (fun x3' =>
        top_TopSteiner_l13 n p B 7 x3' 0 (
          some false) (fun x13' =>
          bnd (latin_Check n 7 x13') fun z14' =>
          bnd (quasi_Commutes n 7 x13') fun z15' =>
          bnd (quasi_Idempotent n 7 x13') fun z16' =>
          brO (z14' != 0) (
            some false) (
            brO (z15'.2 != 0) (
              some false) (
              brO (z16'.2 != 0) (
                some false) (
                brO (!z15'.1) (
                  some false) (
                  brO (!z16'.1) (
                    some false) (
                    bnd (quasi_Parts n 7 x13') fun z17' =>
                    brO (z17'.2 == 0) (
                      some (z17'.1 == 15)) (
                      some false))))))))
def restS (n : Nat) (B : List (List Int)) : Option (Bool) := restG n 7 B
theorem steiner_shape (n : Nat) (l : List (List Int)) : top_TopSteiner n l = bnd (top_one n) fun z1' => brO (!z1') (some false) (bnd (triple_Grow n 7 l) fun z2' => brO (z2'.2.2 != 0) (some true) (restG n z2'.1 z2'.2.1)) := by
  unfold top_TopSteiner restG
  rfl
theorem least_eq (k : Nat) : field_Least (k + 100) 2 3 = some (2, 3, [1, 1, 0], 0) := by kernel_rfl
theorem singer_eq (k : Nat) : differ_Singer (k + 100) 2 3 [1, 1, 0] = some (7, [1, 2, 4], 0) := by kernel_rfl
theorem developR_eq (k : Nat) : differ_Develop (k + 100) 7 [1, 2, 4] = some (7, [sortI [1, 2, 4], sortI [2, 3, 5], sortI [3, 4, 6], sortI [4, 5, 0], sortI [5, 6, 1], sortI [6, 0, 2], sortI [0, 1, 3]], 0) := by kernel_rfl
theorem develop_eq (k : Nat) : differ_Develop (k + 100) 7 [1, 2, 4] = some (7, [[1, 2, 4], [2, 3, 5], [3, 4, 6], [0, 4, 5], [1, 5, 6], [0, 2, 6], [0, 1, 3]], 0) := by
  rw [developR_eq]
  have h1 : sortI [1, 2, 4] = [1, 2, 4] := (sortI_unique (List.Perm.refl _) (by simp)).symm
  have h2 : sortI [2, 3, 5] = [2, 3, 5] := (sortI_unique (List.Perm.refl _) (by simp)).symm
  have h3 : sortI [3, 4, 6] = [3, 4, 6] := (sortI_unique (List.Perm.refl _) (by simp)).symm
  have h4 : sortI [4, 5, 0] = [0, 4, 5] := (sortI_unique (by decide) (by simp)).symm
  have h5 : sortI [5, 6, 1] = [1, 5, 6] := (sortI_unique (by decide) (by simp)).symm
  have h6 : sortI [6, 0, 2] = [0, 2, 6] := (sortI_unique (by decide) (by simp)).symm
  have h7 : sortI [0, 1, 3] = [0, 1, 3] := (sortI_unique (List.Perm.refl _) (by simp)).symm
  rw [h1, h2, h3, h4, h5, h6, h7]
theorem plane_eq (k : Nat) : plane_Check (k + 300) 7 [[1, 2, 4], [2, 3, 5], [3, 4, 6], [0, 4, 5], [1, 5, 6], [0, 2, 6], [0, 1, 3]] = some (2, 0) := by kernel_rfl
theorem one_eq {n : Nat} (hn : 300 < n) : top_one n = some true := by
  obtain ⟨k, rfl⟩ : ∃ k, n = k + 300 := ⟨n - 300, by omega⟩
  unfold top_one
  rw [show k + 300 = (k + 200) + 100 from rfl, least_eq, bnd_sm]
  simp only
  rw [singer_eq, bnd_sm]
  simp only
  rw [develop_eq, bnd_sm]
  simp only
  rw [show (k + 200) + 100 = k + 300 from rfl, plane_eq, bnd_sm]
  rfl
end Go.Gl
