/-
  L26: the law of turns.
  Conditions: none; plain laws.
-/
import Derived.Test.YtjneiglpfdkehaaDoorL25
namespace Go.Gl
open Go Go.Gx Go.Gm
theorem sortL_len (l : List (List Int)) : (sortL l).length = l.length := List.length_mergeSort _
theorem sortL_mem {l : List (List Int)} {b : List Int} : b ∈ sortL l ↔ b ∈ l := (List.mergeSort_perm _ _).mem_iff
theorem Designs_self {n : Nat} {p : Int} {a : List (List Int)} (ha : a.length < n ∧ a.length < 2 ^ 40) (hr : ∀ x, x ∈ a → x.length < n ∧ x.length < 2 ^ 40) : ref2_Designs n p a p a = some true := by
  rw [Designs_eq ha hr]
  simp
theorem Designs_nil {n : Nat} (hn : 0 < n) : ref2_Designs n 0 [] 0 [] = some true := Designs_self ⟨hn, by simp⟩ (by simp)
theorem turns_law {n : Nat} {p q : Int} {l m : List (List Int)} (h : okB n l) (h' : okB n m) (hn : 300000 < n) : law2_TripleTurns n p l q m = some true := by
  unfold law2_TripleTurns
  rw [TripleFault_eq h (by omega), bnd_sm, Check_eq' h (by omega), bnd_sm, show (tfault p l != tfault p l) = false by simp, brO_ff, Double_eq h (by omega), bnd_sm, Product_eq h h' hn, bnd_sm]
  by_cases hp : tfault p l = 0
  · obtain ⟨v, rfl, a1, a2, a3, a4, _⟩ := tf_nat hp
    rw [show (tfault (v : Int) l != 0) = false by simp [hp], brO_ff, DoubleOf_eq a2 a3 a4 (by omega), bnd_sm]
    have hd : dbl v l = if 2 * (v : Int) + 1 > 33 then (0, [], 3) else (2 * (v : Int) + 1, sortL (DL v l), 0) := by
      unfold dbl
      rw [if_pos hp, Int.toNat_natCast]
    rw [hd]
    have hD : ∀ D : Int × List (List Int) × Int, D = (if 2 * (v : Int) + 1 > 33 then (0, [], 3) else (2 * (v : Int) + 1, sortL (DL v l), 0)) → ref2_Designs n D.1 D.2.1 D.1 D.2.1 = some true := by
      intro D hD
      subst hD
      split
      · exact Designs_nil (by omega)
      · have := DL_len a2 a3
        exact Designs_self ⟨by dsimp only; rw [sortL_len]; omega, by dsimp only; rw [sortL_len]; omega⟩ (fun x hx => by have := DL_rows a4 x (sortL_mem.1 hx); omega)
    generalize hG : (if 2 * (v : Int) + 1 > 33 then ((0, [], 3) : Int × List (List Int) × Int) else (2 * (v : Int) + 1, sortL (DL v l), 0)) = D at *
    rw [hD D rfl, bnd_sm, show (D.2.2 != D.2.2) = false by simp, brO_ff, Bool.not_true, brO_ff, TripleFault_eq h' (by omega), bnd_sm]
    by_cases hq : tfault q m = 0
    · obtain ⟨w, rfl, b1, b2, b3, b4, _⟩ := tf_nat hq
      rw [show (tfault (w : Int) m != 0) = false by simp [hq], brO_ff, ProductOf_eq a4 b4 a3 b3 a2 b2 hn, bnd_sm]
      have hpd : prd v l w m = if (v : Int) * w > 33 then (0, [], 3) else ((v : Int) * w, sortL (PL v w l m), 0) := by
        unfold prd
        rw [if_pos hp, if_pos hq, Int.toNat_natCast, Int.toNat_natCast]
      rw [hpd]
      have hE : ∀ E : Int × List (List Int) × Int, E = (if (v : Int) * w > 33 then (0, [], 3) else ((v : Int) * w, sortL (PL v w l m), 0)) → ref2_Designs n E.1 E.2.1 E.1 E.2.1 = some true := by
        intro E hE
        subst hE
        split
        · exact Designs_nil (by omega)
        · have := (PL_len a2 b2 a3 b3).2
          exact Designs_self ⟨by dsimp only; rw [sortL_len]; omega, by dsimp only; rw [sortL_len]; omega⟩ (fun x hx => by have := PL_rows x (sortL_mem.1 hx); omega)
      generalize (if (v : Int) * w > 33 then ((0, [], 3) : Int × List (List Int) × Int) else ((v : Int) * w, sortL (PL v w l m), 0)) = E at *
      rw [hE E rfl, bnd_sm, show (E.2.2 == E.2.2) = true by simp, brO_tt]
    · have hpd : prd v l q m = (0, [], tfault q m) := by
        unfold prd
        rw [if_pos hp, if_neg hq]
      rw [show (tfault q m != 0) = true by simp [hq], brO_tt, hpd, Designs_nil (by omega), bnd_sm, show (tfault q m == tfault q m) = true by simp, brO_tt]
  · have hd : dbl p l = (0, [], tfault p l) := by unfold dbl; rw [if_neg hp]
    have hpd : prd p l q m = (0, [], tfault p l) := by unfold prd; rw [if_neg hp]
    rw [show (tfault p l != 0) = true by simp [hp], brO_tt, hd, hpd, Designs_nil (by omega), bnd_sm, bnd_sm, show (tfault p l == tfault p l) = true by simp, brO_tt, brO_tt, brO_tt]
end Go.Gl
