/-
  L21: the order of blocks, by insertion; designs told apart; what a lister adds.
  Conditions: none; plain laws.
-/
import Derived.Test.YtjneiglpfdkehaaL20
namespace Go.Gl
open Go Go.Gx Go.Gm
def ltL (a b : List Int) : Bool := decide (cmpL a b < 0)
theorem ltL_le {a b : List Int} : ltL b a = false ↔ leL a b = true := by unfold ltL leL; simp
theorem ltL_trans (a b c : List Int) (h1 : ltL b a = false) (h2 : ltL c b = false) : ltL c a = false := by
  rw [ltL_le] at *
  exact leL_trans _ _ _ h1 h2
theorem ltL_asymm (a b : List Int) (h : ltL a b = true) : ltL b a = false := by
  unfold ltL at *
  simp only [decide_eq_true_eq, decide_eq_false_iff_not] at *
  have := (cmpL_flip a b).1 h
  omega
section
variable {ρ : Type}
theorem io_l8 {n : Nat} {l0 : List (List Int)} {i4 : Int} {x : List Int} {k0 : List (List Int) → Option ρ} (hx : x.length < n ∧ x.length < 2 ^ 40) : ∀ (r post : List (List Int)) (m : Nat), r.length < m → r.length + post.length + 1 < 2 ^ 40 →
    iterM (fun (s : (List (List Int)) × Int) nx => ref2_InOrder_s8 n l0 i4 s.1 s.2 (fun a0 a1 => nx (a0, a1)) k0) m (r.reverse ++ x :: post, (r.length : Int)) = k0 (ins ltL x r post)
  | _, _, 0, h, _ => by omega
  | [], post, m + 1, _, _ => by
    rw [iterM_succ]
    dsimp only
    rw [List.length_nil]
    unfold ref2_InOrder_s8
    rw [brO_neg (by omega)]
    rfl
  | y :: r, post, m + 1, h, hb => by
    rw [List.length_cons] at h hb
    rw [iterM_succ]
    dsimp only
    generalize hN : iterM (fun (s : (List (List Int)) × Int) nx => ref2_InOrder_s8 n l0 i4 s.1 s.2 (fun a0 a1 => nx (a0, a1)) k0) m = N
    have e0 : (y :: r).reverse ++ x :: post = r.reverse ++ y :: x :: post := by simp
    have e1 : IntKind.i64.wrap (((r.length + 1 : Nat) : Int) - 1) = (r.length : Int) := by
      rw [w64 (by omega)]; omega
    have hp : r.reverse.length = r.length := List.length_reverse
    have g0 : (r.reverse ++ y :: x :: post)[r.length]? = some y := by have := get_at r.reverse y (x :: post); rwa [hp] at this
    have g1 : (r.reverse ++ y :: x :: post)[r.length + 1]? = some x := by have := get_at1 r.reverse y x post; rwa [hp] at this
    have s1 : ((r.reverse ++ y :: x :: post).set r.length x).set (r.length + 1) y = r.reverse ++ x :: y :: post := by have := set_at r.reverse y x post; rwa [hp] at this
    have hlen : (r.reverse ++ y :: x :: post).length = r.length + post.length + 2 := by simp; omega
    unfold ref2_InOrder_s8
    simp only [e0, List.length_cons, e1, Int.toNat_natCast, g0, g1, hlen, List.length_set]
    rw [brO_pos (by omega), chk_pos (by omega), chk_pos (by omega), bnd_sm, chk_pos (by omega), chk_pos (by omega), bnd_sm, Ahead_eq hx, bnd_sm]
    by_cases hxy : cmpL x y < 0
    · have hd : (!decide (cmpL x y < 0)) = false := by simp [hxy]
      have hl : ltL x y = true := by simp [ltL, hxy]
      rw [hd, brO_ff, chk_pos (by omega), chk_pos (by omega), bnd_sm, chk_pos (by omega), chk_pos (by omega), bnd_sm, chk_pos (by omega), chk_pos (by omega), chk_pos (by omega), chk_pos (by omega), chk_pos (by omega), chk_pos (by omega), s1, ← hN,
        io_l8 hx r (y :: post) m (by omega) (by rw [List.length_cons]; omega)]
      simp only [ins, hl, if_true]
    · have hd : (!decide (cmpL x y < 0)) = true := by simp [hxy]
      have hl : ltL x y = false := by simp [ltL, hxy]
      rw [hd, brO_tt]
      simp [ins, hl]
theorem InOrder_eq {n : Nat} {l : List (List Int)} (hl : l.length < 2 ^ 40) (hn : l.length < n) (hr : ∀ b, b ∈ l → b.length < n ∧ b.length < 2 ^ 40) : ref2_InOrder n l = some (sortL (l.map sortI)) := by
  unfold ref2_InOrder ref2_InOrder_l3
  have main : ∀ (m i : Nat) (out : List (List Int)), out.length = i → i ≤ l.length → l.length - i < m → out.Perm ((l.map sortI).take i) → out.Pairwise (fun a b => ltL b a = false) →
      iterM (fun (s : (List (List Int)) × Int) nx => ref2_InOrder_s3 n l s.1 s.2 (fun a0 a1 => nx (a0, a1)) (fun x7' => some x7')) m (out, (i : Int)) = some (sortL (l.map sortI)) := by
    intro m
    induction m with
    | zero => intro i out _ _ h; omega
    | succ m ih =>
      intro i out ho hi hm hp hs
      rw [iterM_succ]
      dsimp only
      generalize hN : iterM (fun (s : (List (List Int)) × Int) nx => ref2_InOrder_s3 n l s.1 s.2 (fun a0 a1 => nx (a0, a1)) (fun x7' => some x7')) m = N
      unfold ref2_InOrder_s3
      rcases Nat.lt_or_ge i l.length with h | h
      · have hb := hr l[i] (List.getElem_mem h)
        rw [brO_pos (by omega), chk_pos (by omega), chk_pos (by omega), Int.toNat_natCast, bnd_get h, Sorted_eq hb.2 hb.1, bnd_sm, chk_pos rfl, chk_pos (by simp; omega)]
        unfold ref2_InOrder_l8
        have hsl : (sortI l[i]).length = l[i].length := List.length_mergeSort _
        have := io_l8 (ρ := List (List Int)) (n := n) (l0 := l) (i4 := i) (x := sortI l[i]) (k0 := fun x6' => N (x6', (IntKind.i64.wrap ((i : Int) + 1)))) (by rw [hsl]; exact hb) out.reverse [] n (by simp; omega) (by simp; omega)
        rw [List.reverse_reverse, List.length_reverse] at this
        rw [this, w64s (by omega), ← hN]
        have hip := ins_perm ltL (sortI l[i]) out.reverse []
        rw [List.reverse_reverse, List.append_nil] at hip
        have hml : i < (l.map sortI).length := by simpa using h
        refine ih (i + 1) _ ?_ h (by omega) ?_ ?_
        · rw [hip.length_eq]; simp; omega
        · rw [List.take_succ_eq_append_getElem hml, List.getElem_map]
          exact hip.trans (((hp.cons (sortI l[i]))).trans (List.perm_append_singleton (sortI l[i]) ((l.map sortI).take i)).symm)
        · exact ins_sorted (lt := ltL) ltL_trans ltL_asymm (sortI l[i]) out.reverse [] (by
            rw [List.reverse_reverse, List.append_nil]
            exact hs) (by simp)
      · have : i = l.length := by omega
        subst this
        rw [brO_neg (by omega)]
        rw [List.take_of_length_le (by simp)] at hp
        exact congrArg some (sortL_unique hp (hs.imp fun h => ltL_le.1 h))
  exact main n 0 [] rfl (by omega) (by omega) (by simp) List.Pairwise.nil
theorem Ints_eq {n : Nat} {a b : List Int} (ha : a.length < n ∧ a.length < 2 ^ 40) : ref1_Ints n a b = some (a == b) := by
  unfold ref1_Ints ref1_Ints_l4
  by_cases hl : a.length = b.length
  · rw [show ((a.length : Int) != (b.length : Int)) = false by simp; omega, brO_ff]
    have main : ∀ m i : Nat, a.length - i < m → i ≤ a.length → (a == b) = (a.drop i == b.drop i) →
        iterM (fun (s : Int) nx => ref1_Ints_s4 n a b s nx (some false) (some true)) m (i : Int) = some (a == b) := by
      intro m
      induction m with
      | zero => intro i h; omega
      | succ m ih =>
        intro i hm hi he
        rw [iterM_succ]
        try dsimp only
        generalize hN : iterM (fun (s : Int) nx => ref1_Ints_s4 n a b s nx (some false) (some true)) m = N
        unfold ref1_Ints_s4
        by_cases h1 : i < a.length
        · have h2 : i < b.length := by omega
          rw [brO_pos (by omega), chk_pos (by omega), chk_pos (by omega), Int.toNat_natCast, bnd_get h1, chk_pos (by omega), chk_pos (by omega), bnd_get h2]
          rw [List.drop_eq_getElem_cons h1, List.drop_eq_getElem_cons h2, List.cons_beq_cons] at he
          by_cases h3 : a[i] = b[i]
          · rw [show (a[i] != b[i]) = false by simp [h3], brO_ff, w64s (by omega), ← hN]
            exact ih (i + 1) (by omega) (by omega) (by rw [he]; simp [h3])
          · rw [show (a[i] != b[i]) = true by simp [h3], brO_tt, he]
            simp [h3]
        · rw [brO_neg (by omega), he, List.drop_of_length_le (by omega), List.drop_of_length_le (by omega)]
          rfl
    exact main n 0 (by omega) (by omega) rfl
  · rw [show ((a.length : Int) != (b.length : Int)) = true by simp; omega, brO_tt]
    have : (a == b) = false := by
      rw [beq_eq_false_iff_ne]
      intro h
      exact hl (by rw [h])
    rw [this]
theorem Lists_eq {n : Nat} {a b : List (List Int)} (ha : a.length < n ∧ a.length < 2 ^ 40) (hr : ∀ x, x ∈ a → x.length < n ∧ x.length < 2 ^ 40) : ref1_Lists n a b = some (a == b) := by
  unfold ref1_Lists ref1_Lists_l4
  by_cases hl : a.length = b.length
  · rw [show ((a.length : Int) != (b.length : Int)) = false by simp; omega, brO_ff]
    have main : ∀ m i : Nat, a.length - i < m → i ≤ a.length → (a == b) = (a.drop i == b.drop i) →
        iterM (fun (s : Int) nx => ref1_Lists_s4 n a b s nx (some false) (some true)) m (i : Int) = some (a == b) := by
      intro m
      induction m with
      | zero => intro i h; omega
      | succ m ih =>
        intro i hm hi he
        rw [iterM_succ]
        try dsimp only
        generalize hN : iterM (fun (s : Int) nx => ref1_Lists_s4 n a b s nx (some false) (some true)) m = N
        unfold ref1_Lists_s4
        by_cases h1 : i < a.length
        · have h2 : i < b.length := by omega
          rw [brO_pos (by omega), chk_pos (by omega), chk_pos (by omega), Int.toNat_natCast, bnd_get h1, chk_pos (by omega), chk_pos (by omega), bnd_get h2, Ints_eq (hr _ (List.getElem_mem h1)), bnd_sm]
          rw [List.drop_eq_getElem_cons h1, List.drop_eq_getElem_cons h2, List.cons_beq_cons] at he
          by_cases h3 : (a[i] == b[i]) = true
          · rw [h3, Bool.not_true, brO_ff, w64s (by omega), ← hN]
            exact ih (i + 1) (by omega) (by omega) (by rw [he, h3, Bool.true_and])
          · have h3 : (a[i] == b[i]) = false := by simpa using h3
            rw [h3, Bool.not_false, brO_tt, he, h3, Bool.false_and]
        · rw [brO_neg (by omega), he, List.drop_of_length_le (by omega), List.drop_of_length_le (by omega)]
          rfl
    exact main n 0 (by omega) (by omega) rfl
  · rw [show ((a.length : Int) != (b.length : Int)) = true by simp; omega, brO_tt]
    have : (a == b) = false := by
      rw [beq_eq_false_iff_ne]
      intro h
      exact hl (by rw [h])
    rw [this]
theorem Designs_eq {n : Nat} {p q : Int} {a b : List (List Int)} (ha : a.length < n ∧ a.length < 2 ^ 40) (hr : ∀ x, x ∈ a → x.length < n ∧ x.length < 2 ^ 40) : ref2_Designs n p a q b = some (p == q && a == b) := by
  unfold ref2_Designs
  rw [Lists_eq ha hr, bnd_sm]
  cases h : (p == q) <;> rfl
theorem add_eq {n : Nat} {L : List (List Int)} {v a b c : Int} (h : L.length + 1 < 2 ^ 40) : triple_lister_add n L v a b c = some (L ++ [sortI [a, b, c]], v) := by
  unfold triple_lister_add sortIm
  rw [if_pos (by simp), bnd_sm, chk_pos rfl, chk_pos (by simpa using h)]
theorem design_eq {n : Nat} {L : List (List Int)} {v : Int} (h : L.length < 2 ^ 40) (hr : ∀ x, x ∈ L → x.length < n ∧ x.length < 2 ^ 40) : triple_system_design n L v = some (v, sortL L, sortL L, v) := by
  unfold triple_system_design sortLm
  rw [if_pos ⟨by simpa using hr, h⟩, bnd_sm]
end
end Go.Gl
