/-
  L5: sums over numbers below a bound.
  Conditions: none; plain laws.
-/
import Derived.Test.YtjneiglpfdkehaaL1
namespace Go.Gl
/-- The sum over numbers below n. -/
def S : Nat → (Nat → Nat) → Nat
  | 0, _ => 0
  | n + 1, f => S n f + f n
theorem S_succ (n : Nat) (f : Nat → Nat) : S (n + 1) f = S n f + f n := rfl
theorem S_congr {f g : Nat → Nat} : ∀ (n : Nat), (∀ i, i < n → f i = g i) → S n f = S n g
  | 0, _ => rfl
  | n + 1, h => by
    unfold S
    rw [S_congr n fun i hi => h i (by omega), h n (by omega)]
theorem S_zero : ∀ (n : Nat), S n (fun _ => 0) = 0
  | 0 => rfl
  | n + 1 => by simp only [S_succ, S_zero n]
theorem S_zero' {f : Nat → Nat} {n : Nat} (h : ∀ i, i < n → f i = 0) : S n f = 0 := by rw [S_congr n h, S_zero]
theorem S_add (f g : Nat → Nat) : ∀ (n : Nat), S n (fun i => f i + g i) = S n f + S n g
  | 0 => rfl
  | n + 1 => by simp only [S_succ, S_add f g n]; omega
theorem S_mul (c : Nat) (f : Nat → Nat) : ∀ (n : Nat), S n (fun i => c * f i) = c * S n f
  | 0 => by simp [S]
  | n + 1 => by simp only [S_succ, S_mul c f n, Nat.mul_add]
theorem S_swap (f : Nat → Nat → Nat) (m : Nat) : ∀ (n : Nat), S n (fun i => S m (f i)) = S m (fun j => S n (fun i => f i j))
  | 0 => by simp only [S]; rw [S_zero]
  | n + 1 => by
    simp only [S_succ, S_swap f m n, S_add]
theorem S_le {f g : Nat → Nat} : ∀ (n : Nat), (∀ i, i < n → f i ≤ g i) → S n f ≤ S n g
  | 0, _ => Nat.le_refl _
  | n + 1, h => by
    unfold S
    have := S_le n fun i hi => h i (by omega)
    have := h n (by omega)
    omega
theorem S_eq_of_le {f g : Nat → Nat} : ∀ (n : Nat), (∀ i, i < n → f i ≤ g i) → S n f = S n g → ∀ i, i < n → f i = g i
  | 0, _, _, i, hi => by omega
  | n + 1, h, he, i, hi => by
    unfold S at he
    have h1 := S_le n fun i hi => h i (by omega)
    have h2 := h n (by omega)
    by_cases hin : i = n
    · subst hin; omega
    · exact S_eq_of_le n (fun i hi => h i (by omega)) (by omega) i (by omega)
theorem S_one {n a : Nat} (c : Nat) (h : a < n) : S n (fun i => if i = a then c else 0) = c := by
  induction n with
  | zero => omega
  | succ n ih =>
    simp only [S_succ]
    by_cases ha : a = n
    · subst ha
      rw [S_zero' fun i hi => if_neg (by omega)]
      simp
    · rw [ih (by omega), if_neg (by omega)]
      rfl
theorem S_single {n a : Nat} {f : Nat → Nat} (h : a < n) (h0 : ∀ i, i < n → i ≠ a → f i = 0) : S n f = f a := by
  rw [S_congr n (g := fun i => if i = a then f a else 0) fun i hi => by
    split
    · rename_i e; rw [e]
    · exact h0 i hi (by assumption)]
  exact S_one _ h
theorem S_pos {n : Nat} {f : Nat → Nat} (h : S n f ≠ 0) : ∃ i, i < n ∧ f i ≠ 0 := by
  induction n with
  | zero => exact (h rfl).elim
  | succ n ih =>
    unfold S at h
    by_cases hn : f n = 0
    · obtain ⟨i, hi, hf⟩ := ih (by omega)
      exact ⟨i, by omega, hf⟩
    · exact ⟨n, by omega, hn⟩
/-- The numbers below a bound, summed as far as another. -/
theorem S_below {x n : Nat} {f : Nat → Nat} (h : x ≤ n) : S n (fun i => if i < x then f i else 0) = S x f := by
  induction n with
  | zero => have : x = 0 := by omega
            subst this; rfl
  | succ n ih =>
    rw [S_succ]
    by_cases hx : x = n + 1
    · subst hx
      rw [S_congr n (g := f) fun i hi => if_pos (by omega)]
      simp only [S_succ, Nat.lt_succ_self, if_true]
    · have hn : ¬ n < x := by omega
      rw [ih (by omega)]
      simp only [hn, if_false, Nat.add_zero]
theorem S_gauss : ∀ (n : Nat), 2 * S n (fun i => i) = n * (n - 1)
  | 0 => rfl
  | n + 1 => by
    simp only [S_succ]
    rw [Nat.mul_add, S_gauss n]
    cases n with
    | zero => rfl
    | succ m =>
      simp only [Nat.add_sub_cancel]
      rw [← Nat.mul_comm (m + 1) 2, Nat.mul_comm (m + 1) m, ← Nat.mul_comm 2, ← Nat.add_mul, Nat.mul_comm]
theorem S_const (c : Nat) : ∀ (n : Nat), S n (fun _ => c) = n * c
  | 0 => by simp [S]
  | n + 1 => by simp only [S_succ, S_const c n, Nat.add_mul]; omega
/-- A count over a list, as a sum. -/
theorem countP_S {α : Type} [Inhabited α] (p : α → Bool) : ∀ (l : List α), l.countP p = S l.length (fun i => if p (l.getD i default) = true then 1 else 0) := by
  intro l
  have key : ∀ (m : Nat) (l : List α), l.length = m → S l.length (fun i => if p (l.getD i default) = true then 1 else 0) = l.countP p := by
    intro m
    induction m with
    | zero => intro l hl; rw [List.eq_nil_of_length_eq_zero hl]; rfl
    | succ m ih =>
      intro l hl
      obtain ⟨l', a, rfl⟩ : ∃ l' a, l = l' ++ [a] := ⟨l.dropLast, l.getLast (by intro h; simp [h] at hl), (List.dropLast_concat_getLast _).symm⟩
      have hl' : l'.length = m := by simpa using hl
      rw [List.length_append, show l'.length + [a].length = l'.length + 1 from rfl, S_succ]
      rw [S_congr l'.length (g := fun i => if p (l'.getD i default) = true then 1 else 0) fun i hi => by
        simp only [List.getD_eq_getElem?_getD]
        rw [List.getElem?_append_left hi], ih l' hl', List.countP_append]
      simp [List.countP_cons]
  exact (key _ l rfl).symm
end Go.Gl
