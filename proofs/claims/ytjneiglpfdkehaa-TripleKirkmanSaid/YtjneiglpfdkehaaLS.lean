/-
  LS: the order of rows, as the code has it.
  Conditions: none.
-/
import Derived.Test.YtjneiglpfdkehaaGm
import Derived.Test.YtjneiglpfdkehaaL1
namespace Go.Law
open Go Go.Gx Go.Gl
theorem cmp_Compare_eq (n : Nat) (x y : Int) : Gm.cmp_Compare_int n x y = some (if x < y then -1 else if y < x then 1 else 0) := by
  have h : ∀ z : Int, (z != z) = false := fun z => by simp
  simp only [Gm.cmp_Compare_int, Gm.cmp_isNaN_int, bnd_sm, h, brO_ff]
  by_cases h1 : x < y
  · rw [brO_pos h1, if_pos h1]
  · rw [brO_neg h1, if_neg h1]
    by_cases h2 : y < x
    · rw [brO_pos (show x > y from h2), if_pos h2]
    · rw [brO_neg (show ¬ x > y from h2), if_neg h2]
theorem compare_eq (n : Nat) (a b : List Int) (ha : a.length < n ∧ a.length < 2 ^ 40) : Gm.slices_Compare_intint n a b = some (cmpL a b) := by
  unfold Gm.slices_Compare_intint Gm.slices_Compare_intint_l2
  have main : ∀ m i : Nat, a.length - i < m → i ≤ a.length → i ≤ b.length →
      iterM (fun (s : Int) nx => Gm.slices_Compare_intint_s2 n a b a (a.length : Int) s nx (some 1) (fun x4' => some x4') (brO (decide ((a.length : Int) < (b.length : Int))) (some (-1)) (some 0))) m (i : Int) = some (cmpL (a.drop i) (b.drop i)) := by
    intro m
    induction m with
    | zero => intro i h; omega
    | succ m ih =>
      intro i hm hia hib
      show Gm.slices_Compare_intint_s2 n a b a (a.length : Int) (i : Int) _ _ _ _ = _
      unfold Gm.slices_Compare_intint_s2
      by_cases h1 : i < a.length
      · rw [brO_pos (show (i : Int) < (a.length : Int) by omega), chk_pos (by omega), chk_pos (by omega), Int.toNat_natCast, bnd_get h1, List.drop_eq_getElem_cons h1]
        by_cases h2 : i < b.length
        · rw [brO_neg (show ¬ (i : Int) ≥ (b.length : Int) by omega), chk_pos (by omega), chk_pos (by omega), bnd_get h2, List.drop_eq_getElem_cons h2, cmp_Compare_eq, bnd_sm]
          unfold cmpL
          by_cases h3 : a[i] < b[i]
          · simp only [if_pos h3]
            rfl
          · by_cases h4 : b[i] < a[i]
            · simp only [if_neg h3, if_pos h4]
              rfl
            · simp only [if_neg h3, if_neg h4]
              rw [w64s (by omega)]
              exact ih (i + 1) (by omega) (by omega) (by omega)
        · rw [brO_pos (show (i : Int) ≥ (b.length : Int) by omega), List.drop_of_length_le (show b.length ≤ i by omega)]
          rfl
      · rw [brO_neg (show ¬ (i : Int) < (a.length : Int) by omega), List.drop_of_length_le (show a.length ≤ i by omega)]
        by_cases h2 : i < b.length
        · rw [brO_pos (by omega), List.drop_eq_getElem_cons h2]
          rfl
        · rw [brO_neg (by omega), List.drop_of_length_le (show b.length ≤ i by omega)]
          rfl
  have := main n 0 (by omega) (by omega) (by omega)
  simpa using this
theorem triple_system_design_1_eq (n : Nat) (a b : List Int) (ha : a.length < n ∧ a.length < 2 ^ 40) (_ : b.length < n ∧ b.length < 2 ^ 40) : Gm.triple_system_design_1 n a b = some (cmpL a b) := by
  unfold Gm.triple_system_design_1
  rw [compare_eq n a b ha]
  rfl
end Go.Law
