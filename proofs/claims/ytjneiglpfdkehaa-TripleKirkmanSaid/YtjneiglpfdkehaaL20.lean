/-
  L20: the sorts of the reference: by insertion.
  Conditions: none; plain laws.
-/
import Derived.Test.YtjneiglpfdkehaaLS
import Derived.Test.YtjneiglpfdkehaaL3
namespace Go.Gl
open Go Go.Gx Go.Gm
/-! ### Insertion -/
def ins {α : Type} (lt : α → α → Bool) (x : α) : List α → List α → List α
  | [], post => x :: post
  | y :: r, post => if lt x y = true then ins lt x r (y :: post) else (y :: r).reverse ++ x :: post
theorem ins_perm {α : Type} (lt : α → α → Bool) (x : α) : ∀ (r post : List α), (ins lt x r post).Perm (x :: (r.reverse ++ post))
  | [], post => List.Perm.refl _
  | y :: r, post => by
    unfold ins
    split
    · refine (ins_perm lt x r (y :: post)).trans ?_
      rw [List.reverse_cons, List.append_assoc]
      exact List.Perm.refl _
    · exact List.perm_middle
theorem ins_sorted {α : Type} {lt : α → α → Bool} (ht : ∀ a b c, lt b a = false → lt c b = false → lt c a = false) (ha : ∀ a b, lt a b = true → lt b a = false) (x : α) :
    ∀ (r post : List α), (r.reverse ++ post).Pairwise (fun a b => lt b a = false) → (∀ z, z ∈ post → lt z x = false) → (ins lt x r post).Pairwise (fun a b => lt b a = false)
  | [], post, h, hx => List.pairwise_cons.2 ⟨hx, by simpa using h⟩
  | y :: r, post, h, hx => by
    unfold ins
    rw [List.reverse_cons, List.append_assoc] at h
    split
    · rename_i hl
      refine ins_sorted ht ha x r (y :: post) h fun z hz => ?_
      rcases List.mem_cons.1 hz with rfl | hz
      · exact ha _ _ hl
      · exact hx z hz
    · rename_i hl
      have hl : lt x y = false := by simpa using hl
      have h' := List.pairwise_append.1 h
      rw [List.reverse_cons, List.append_assoc]
      refine List.pairwise_append.2 ⟨h'.1, List.pairwise_cons.2 ⟨?_, List.pairwise_cons.2 ⟨hx, (List.pairwise_cons.1 h'.2.1).2⟩⟩, ?_⟩
      · intro z hz
        rcases List.mem_cons.1 hz with rfl | hz
        · exact hl
        · exact (List.pairwise_cons.1 h'.2.1).1 z hz
      · intro a hA b hb
        rcases List.mem_cons.1 hb with rfl | hb
        · exact h'.2.2 a hA b (List.mem_cons_self ..)
        rcases List.mem_cons.1 hb with rfl | hb
        · exact ht a y b (h'.2.2 a hA y (List.mem_cons_self ..)) hl
        · exact h'.2.2 a hA b (List.mem_cons_of_mem _ hb)
theorem get_at {α : Type} (p : List α) (y : α) (q : List α) : (p ++ y :: q)[p.length]? = some y := by simp
theorem get_at1 {α : Type} (p : List α) (y x : α) (q : List α) : (p ++ y :: x :: q)[p.length + 1]? = some x := by simp
theorem set_at {α : Type} (p : List α) (y x : α) (q : List α) : ((p ++ y :: x :: q).set p.length x).set (p.length + 1) y = p ++ x :: y :: q := by simp
section
variable {ρ : Type}
theorem iterM_succ {σ : Type} (f : σ → (σ → Option ρ) → Option ρ) (m : Nat) (s : σ) : iterM f (m + 1) s = f s (iterM f m) := rfl
theorem so_l7 {n : Nat} {l0 : List Int} {i4 x : Int} {k0 : List Int → Option ρ} : ∀ (r post : List Int) (m : Nat), r.length < m → r.length + post.length + 1 < 2 ^ 40 →
    iterM (fun (s : (List Int) × Int) nx => ref2_Sorted_s7 n l0 i4 s.1 s.2 (fun a0 a1 => nx (a0, a1)) k0) m (r.reverse ++ x :: post, (r.length : Int)) = k0 (ins (fun a b => decide (b > a)) x r post)
  | _, _, 0, h, _ => by omega
  | [], post, m + 1, _, _ => by
    rw [iterM_succ]
    dsimp only
    rw [List.length_nil]
    unfold ref2_Sorted_s7
    rw [brO_neg (by omega)]
    rfl
  | y :: r, post, m + 1, h, hb => by
    rw [List.length_cons] at h hb
    rw [iterM_succ]
    dsimp only
    generalize hN : iterM (fun (s : (List Int) × Int) nx => ref2_Sorted_s7 n l0 i4 s.1 s.2 (fun a0 a1 => nx (a0, a1)) k0) m = N
    have e0 : (y :: r).reverse ++ x :: post = r.reverse ++ y :: x :: post := by simp
    have e1 : IntKind.i64.wrap (((r.length + 1 : Nat) : Int) - 1) = (r.length : Int) := by
      rw [w64 (by omega)]; omega
    have hp : r.reverse.length = r.length := List.length_reverse
    have g0 : (r.reverse ++ y :: x :: post)[r.length]? = some y := by have := get_at r.reverse y (x :: post); rwa [hp] at this
    have g1 : (r.reverse ++ y :: x :: post)[r.length + 1]? = some x := by have := get_at1 r.reverse y x post; rwa [hp] at this
    have s1 : ((r.reverse ++ y :: x :: post).set r.length x).set (r.length + 1) y = r.reverse ++ x :: y :: post := by have := set_at r.reverse y x post; rwa [hp] at this
    have hlen : (r.reverse ++ y :: x :: post).length = r.length + post.length + 2 := by simp; omega
    unfold ref2_Sorted_s7
    simp only [e0, List.length_cons, e1, Int.toNat_natCast, g0, g1, hlen, List.length_set]
    rw [brO_pos (by omega), chk_pos (by omega), chk_pos (by omega), bnd_sm, chk_pos (by omega), chk_pos (by omega), bnd_sm]
    by_cases hxy : y > x
    · rw [brO_pos hxy, chk_pos (by omega), chk_pos (by omega), bnd_sm, chk_pos (by omega), chk_pos (by omega), bnd_sm, chk_pos (by omega), chk_pos (by omega), chk_pos (by omega), chk_pos (by omega), chk_pos (by omega), chk_pos (by omega), s1, ← hN,
        so_l7 r (y :: post) m (by omega) (by rw [List.length_cons]; omega)]
      simp [ins, hxy]
    · rw [brO_neg hxy]
      simp [ins, hxy]
theorem sortI_unique {l l' : List Int} (hp : l'.Perm l) (hs : l'.Pairwise fun a b => decide (a ≤ b) = true) : l' = sortI l :=
  List.Perm.eq_of_pairwise (fun _ _ _ _ h1 h2 => by simp at h1 h2; omega) hs (List.pairwise_mergeSort (le := fun x y : Int => decide (x ≤ y)) (by intro a b c; simp; omega) (by intro a b; simp; omega) l) (hp.trans (List.mergeSort_perm _ _).symm)
theorem Sorted_eq {n : Nat} {l : List Int} (hl : l.length < 2 ^ 40) (hn : l.length < n) : ref2_Sorted n l = some (sortI l) := by
  unfold ref2_Sorted ref2_Sorted_l3
  have main : ∀ (m i : Nat) (out : List Int), out.length = i → i ≤ l.length → l.length - i < m → out.Perm (l.take i) → out.Pairwise (fun a b => decide (a ≤ b) = true) →
      iterM (fun (s : (List Int) × Int) nx => ref2_Sorted_s3 n l s.1 s.2 (fun a0 a1 => nx (a0, a1)) (fun x7' => some x7')) m (out, (i : Int)) = some (sortI l) := by
    intro m
    induction m with
    | zero => intro i out _ _ h; omega
    | succ m ih =>
      intro i out ho hi hm hp hs
      rw [iterM_succ]
      dsimp only
      generalize hN : iterM (fun (s : (List Int) × Int) nx => ref2_Sorted_s3 n l s.1 s.2 (fun a0 a1 => nx (a0, a1)) (fun x7' => some x7')) m = N
      unfold ref2_Sorted_s3
      rcases Nat.lt_or_ge i l.length with h | h
      · rw [brO_pos (by omega), chk_pos (by omega), chk_pos (by omega), Int.toNat_natCast, bnd_get h, chk_pos rfl, chk_pos (by simp; omega)]
        unfold ref2_Sorted_l7
        have := so_l7 (ρ := List Int) (n := n) (l0 := l) (i4 := i) (x := l[i]) (k0 := fun x6' => N (x6', (IntKind.i64.wrap ((i : Int) + 1)))) out.reverse [] n (by simp; omega) (by simp; omega)
        rw [List.reverse_reverse, List.length_reverse] at this
        rw [this, w64s (by omega), ← hN]
        have hip := ins_perm (fun a b : Int => decide (b > a)) l[i] out.reverse []
        rw [List.reverse_reverse, List.append_nil] at hip
        refine ih (i + 1) _ ?_ h (by omega) ?_ ?_
        · rw [hip.length_eq]; simp; omega
        · rw [List.take_succ_eq_append_getElem h]
          exact hip.trans (((hp.cons l[i])).trans (List.perm_append_singleton l[i] (l.take i)).symm)
        · have := ins_sorted (lt := fun a b : Int => decide (b > a)) (by intro a b c; simp; omega) (by intro a b; simp; omega) l[i] out.reverse [] (by
            rw [List.reverse_reverse, List.append_nil]
            exact hs.imp (by intro a b; simp)) (by simp)
          exact this.imp (by intro a b; simp)
      · have : i = l.length := by omega
        subst this
        rw [brO_neg (by omega), List.take_length] at *
        exact congrArg some (sortI_unique hp hs)
  exact main n 0 [] rfl (by omega) (by omega) (by simp) List.Pairwise.nil
theorem cmpL_cons (x y : Int) (r s : List Int) : cmpL (x :: r) (y :: s) = if x < y then -1 else if y < x then 1 else cmpL r s := rfl
theorem Ahead_eq {n : Nat} {a b : List Int} (ha : a.length < n ∧ a.length < 2 ^ 40) : ref2_Ahead n a b = some (decide (cmpL a b < 0)) := by
  unfold ref2_Ahead ref2_Ahead_l2
  have main : ∀ m i : Nat, a.length - i < m → i ≤ a.length → i ≤ b.length → cmpL a b = cmpL (a.drop i) (b.drop i) →
      iterM (fun (s : Int) nx => ref2_Ahead_s2 n a b s nx (fun x5' => some x5') (some (decide ((a.length : Int) < (b.length : Int))))) m (i : Int) = some (decide (cmpL a b < 0)) := by
    intro m
    induction m with
    | zero => intro i h; omega
    | succ m ih =>
      intro i hm hia hib he
      show ref2_Ahead_s2 n a b (i : Int) _ _ _ = _
      unfold ref2_Ahead_s2
      by_cases h1 : i < a.length
      · by_cases h2 : i < b.length
        · rw [brO_pos (by omega), brO_pos (by omega), chk_pos (by omega), chk_pos (by omega), Int.toNat_natCast, bnd_get h1, chk_pos (by omega), chk_pos (by omega), bnd_get h2]
          rw [List.drop_eq_getElem_cons h1, List.drop_eq_getElem_cons h2] at he
          rw [cmpL_cons] at he
          by_cases h3 : a[i] = b[i]
          · rw [show (a[i] != b[i]) = false by simp [h3], brO_ff, w64s (by omega)]
            have hl : ¬ a[i] < b[i] := by omega
            have hl' : ¬ b[i] < a[i] := by omega
            simp only [hl, hl', if_false] at he
            exact ih (i + 1) (by omega) (by omega) (by omega) he
          · rw [show (a[i] != b[i]) = true by simp [h3], brO_tt, chk_pos (by omega), chk_pos (by omega), bnd_get h1, chk_pos (by omega), chk_pos (by omega), bnd_get h2]
            by_cases h4 : a[i] < b[i]
            · simp only [h4, if_true] at he
              simp [he, h4]
            · have h5 : b[i] < a[i] := by omega
              simp only [h4, h5, if_false, if_true] at he
              simp [he, h4]
        · rw [brO_pos (by omega), brO_neg (by omega)]
          rw [List.drop_eq_getElem_cons h1, List.drop_of_length_le (show b.length ≤ i by omega)] at he
          have : ¬ (a.length : Int) < (b.length : Int) := by omega
          rw [he]
          simp [cmpL, this]
          try omega
      · rw [brO_neg (by omega)]
        rw [List.drop_of_length_le (show a.length ≤ i by omega)] at he
        by_cases h2 : i < b.length
        · rw [List.drop_eq_getElem_cons h2] at he
          have : (a.length : Int) < (b.length : Int) := by omega
          rw [he]
          simp [cmpL]
          try omega
        · rw [List.drop_of_length_le (show b.length ≤ i by omega)] at he
          have : ¬ (a.length : Int) < (b.length : Int) := by omega
          rw [he]
          simp [cmpL]
          try omega
  exact main n 0 (by omega) (by omega) (by omega) (by simp)
end
end Go.Gl
