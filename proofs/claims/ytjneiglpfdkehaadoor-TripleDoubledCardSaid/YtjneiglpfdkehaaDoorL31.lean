/-
  L31: the product of two systems is a system.
  Conditions: none; plain laws.
-/
import Derived.Test.YtjneiglpfdkehaaDoorL30
namespace Go.Gl
open Go Go.Gx Go.Gm
def cmp3 (s : Nat × Nat × Nat) (i : Nat) : Nat := if i = 0 then s.1 else if i = 1 then s.2.1 else s.2.2
theorem six_any : ∀ i j i' j' : Fin 3, i ≠ j → i' ≠ j' → (six.any fun s => cmp3 s i.1 == i'.1 && cmp3 s j.1 == j'.1) = true := by decide
theorem six_all (i : Nat) (hi : i < 3) (j : Nat) (hj : j < 3) (hij : i ≠ j) (i' : Nat) (hi' : i' < 3) (j' : Nat) (hj' : j' < 3) (hij' : i' ≠ j') : ∃ s, s ∈ six ∧ cmp3 s i = i' ∧ cmp3 s j = j' := by
  obtain ⟨s, hs, h⟩ := List.any_eq_true.1 (six_any ⟨i, hi⟩ ⟨j, hj⟩ ⟨i', hi'⟩ ⟨j', hj'⟩ (fun h => hij (congrArg Fin.val h)) (fun h => hij' (congrArg Fin.val h)))
  simp only [Bool.and_eq_true, beq_iff_eq] at h
  exact ⟨s, hs, h⟩
theorem six_ne : ∀ s, s ∈ six → s.1 < 3 ∧ s.2.1 < 3 ∧ s.2.2 < 3 ∧ s.1 ≠ s.2.1 ∧ s.2.1 ≠ s.2.2 ∧ s.1 ≠ s.2.2 := by decide
theorem pX_mem {w : Int} {c d : List Int} {s : Nat × Nat × Nat} {i : Nat} (hi : i < 3) : u3 c i * w + u3 d (cmp3 s i) ∈ pX w c d s := by
  rcases (show i = 0 ∨ i = 1 ∨ i = 2 by omega) with rfl | rfl | rfl <;> simp [pX, cmp3]
theorem mulN {a b : Int} {q w : Nat} (ha : 0 ≤ a) (ha' : a < q) (hb : 0 ≤ b) (hb' : b < w) : 0 ≤ a * (w : Int) + b ∧ a * (w : Int) + b < ((q * w : Nat) : Int) := by
  obtain ⟨x, rfl⟩ := Int.eq_ofNat_of_zero_le ha
  have h1 : (x + 1) * w ≤ q * w := Nat.mul_le_mul_right w (by omega)
  rw [Nat.add_mul, Nat.one_mul] at h1
  have h2 : 0 ≤ ((x * w : Nat) : Int) := Int.natCast_nonneg _
  have h3 : ((x * w : Nat) : Int) = (x : Int) * w := Int.natCast_mul x w
  omega
theorem mul_ne {a b c d : Int} {w : Nat} (hc : 0 ≤ c ∧ c < w) (hd : 0 ≤ d ∧ d < w) (h : a ≠ b ∨ c ≠ d) : a * (w : Int) + c ≠ b * w + d := by
  intro he
  have h1 : (a - b) * (w : Int) = d - c := by rw [Int.sub_mul]; omega
  by_cases hab : a = b
  · subst hab
    simp at h1
    rcases h with h | h
    · exact h rfl
    · omega
  · have : (a - b ≤ -1) ∨ (1 ≤ a - b) := by omega
    rcases this with h2 | h2
    · have := Int.mul_le_mul_of_nonneg_right h2 (show (0 : Int) ≤ w by omega)
      omega
    · have := Int.mul_le_mul_of_nonneg_right h2 (show (0 : Int) ≤ w by omega)
      omega
theorem PL_tri {v w : Nat} {la lb : List (List Int)} (ha : ∀ b, b ∈ la → tri v b) (hb : ∀ b, b ∈ lb → tri w b) : ∀ b, b ∈ PL v w la lb → tri ((v * w : Nat) : Int) b := by
  intro b hm
  unfold PL at hm
  rcases List.mem_append.1 hm with hm | hm
  · obtain ⟨c, hc, hm⟩ := List.mem_flatMap.1 hm
    obtain ⟨x, hx, hm⟩ := List.mem_flatMap.1 hm
    rw [List.mem_range] at hx
    rw [List.mem_singleton.1 hm]
    have hc := hb c hc
    have l0 := u3_lt hc 0
    have l1 := u3_lt hc 1
    have l2 := u3_lt hc 2
    exact tri_sort (mulN (by omega) (by omega) l0.1 l0.2) (mulN (by omega) (by omega) l1.1 l1.2) (mulN (by omega) (by omega) l2.1 l2.2) (mul_ne l0 l1 (.inr (u3_ne hc (by omega)))) (mul_ne l1 l2 (.inr (u3_ne hc (by omega)))) (mul_ne l0 l2 (.inr (u3_ne hc (by omega))))
  · obtain ⟨c, hc, hm⟩ := List.mem_flatMap.1 hm
    have hc := ha c hc
    have l0 := u3_lt hc 0
    have l1 := u3_lt hc 1
    have l2 := u3_lt hc 2
    rcases List.mem_append.1 hm with hm | hm
    · obtain ⟨y, hy, hm⟩ := List.mem_flatMap.1 hm
      rw [List.mem_range] at hy
      rw [List.mem_singleton.1 hm]
      have ly : (0 : Int) ≤ y ∧ (y : Int) < w := by omega
      exact tri_sort (mulN l0.1 l0.2 ly.1 ly.2) (mulN l1.1 l1.2 ly.1 ly.2) (mulN l2.1 l2.2 ly.1 ly.2) (mul_ne ly ly (.inl (u3_ne hc (by omega)))) (mul_ne ly ly (.inl (u3_ne hc (by omega)))) (mul_ne ly ly (.inl (u3_ne hc (by omega))))
    · obtain ⟨d, hd, hm⟩ := List.mem_flatMap.1 hm
      obtain ⟨s, hs, rfl⟩ := List.mem_map.1 hm
      have hd := hb d hd
      have k0 := u3_lt hd s.1
      have k1 := u3_lt hd s.2.1
      have k2 := u3_lt hd s.2.2
      exact tri_sort (mulN l0.1 l0.2 k0.1 k0.2) (mulN l1.1 l1.2 k1.1 k1.2) (mulN l2.1 l2.2 k2.1 k2.2) (mul_ne k0 k1 (.inl (u3_ne hc (by omega)))) (mul_ne k1 k2 (.inl (u3_ne hc (by omega)))) (mul_ne k0 k2 (.inl (u3_ne hc (by omega))))
theorem PL_leneq {v w : Nat} {la lb : List (List Int)} (ha : ∀ b, b ∈ la → tri v b) (hga : good v la = true) (hb : ∀ b, b ∈ lb → tri w b) (hgb : good w lb = true) (hv : 1 ≤ v) (hw : 1 ≤ w) : 6 * (PL v w la lb).length = (v * w) * (v * w - 1) := by
  have h1 := good_len ha hga
  have h2 := good_len hb hgb
  have e1 := flat_leneq (g := fun c => (List.range v).flatMap fun x => [sortI (pB w c x)]) (c := v) (l := lb) (fun c _ => flat1)
  have e3 : ∀ c, (lb.flatMap fun d => six.map fun s => sortI (pX w c d s)).length = 6 * lb.length := fun c => flat_leneq (g := fun d => six.map fun s => sortI (pX w c d s)) (c := 6) (l := lb) (fun _ _ => by simp [six])
  have e2 := flat_leneq (g := fun c => ((List.range w).flatMap fun y => [sortI (pA w c y)]) ++ lb.flatMap fun d => six.map fun s => sortI (pX w c d s)) (c := w + 6 * lb.length) (l := la) (fun c _ => by rw [List.length_append, flat1, e3])
  unfold PL
  rw [List.length_append, e1, e2]
  generalize la.length = A at *
  generalize lb.length = B at *
  obtain ⟨a, rfl⟩ : ∃ k, v = k + 1 := ⟨v - 1, by omega⟩
  obtain ⟨b, rfl⟩ : ∃ k, w = k + 1 := ⟨w - 1, by omega⟩
  rw [Nat.add_sub_cancel] at h1 h2
  rw [h2]
  have e4 : b + 1 + (b + 1) * b = (b + 1) * (b + 1) := by rw [Nat.mul_add (b + 1) b 1]; omega
  rw [e4, Nat.mul_add, show 6 * ((a + 1) * B) = (a + 1) * (6 * B) by rw [Nat.mul_left_comm], h2, show 6 * ((b + 1) * (b + 1) * A) = (b + 1) * (b + 1) * (6 * A) by rw [Nat.mul_left_comm], h1]
  have e5 : (a + 1) * (b + 1) - 1 = a * b + a + b := by rw [Nat.add_mul, Nat.mul_add]; omega
  rw [e5]
  simp only [Nat.add_mul, Nat.mul_add, Nat.mul_one, Nat.one_mul]
  simp only [Nat.mul_comm, Nat.mul_left_comm]
  omega
theorem PL_ex {v w : Nat} {la lb : List (List Int)} (ha : ∀ b, b ∈ la → tri v b) (hga : good v la = true) (hb : ∀ b, b ∈ lb → tri w b) (hgb : good w lb = true) (hw : 1 ≤ w) : ∀ x, x < v * w → ∀ y, y < x → ∃ b, b ∈ PL v w la lb ∧ (x : Int) ∈ b ∧ (y : Int) ∈ b := by
  intro x hx y hy
  have dx : (x : Int) = ((x / w : Nat) : Int) * w + ((x % w : Nat) : Int) := by
    have := Nat.div_add_mod x w
    rw [Nat.mul_comm] at this
    have h2 := congrArg (Nat.cast (R := Int)) this
    rw [Int.natCast_add, Int.natCast_mul] at h2
    exact h2.symm
  have dy : (y : Int) = ((y / w : Nat) : Int) * w + ((y % w : Nat) : Int) := by
    have := Nat.div_add_mod y w
    rw [Nat.mul_comm] at this
    have h2 := congrArg (Nat.cast (R := Int)) this
    rw [Int.natCast_add, Int.natCast_mul] at h2
    exact h2.symm
  have bx : x / w < v := Nat.div_lt_of_lt_mul (by rw [Nat.mul_comm]; exact hx)
  have by' : y / w < v := Nat.div_lt_of_lt_mul (by rw [Nat.mul_comm]; omega)
  have mx : x % w < w := Nat.mod_lt _ hw
  have my : y % w < w := Nat.mod_lt _ hw
  have hne : ¬ (x / w = y / w ∧ x % w = y % w) := by
    rintro ⟨h1, h2⟩
    rw [h1, h2, ← dy] at dx
    omega
  generalize x / w = X at *
  generalize y / w = Y at *
  generalize x % w = s at *
  generalize y % w = t at *
  rw [dx, dy]
  by_cases hXY : X = Y
  · subst hXY
    have hst : s ≠ t := fun h => hne ⟨rfl, h⟩
    obtain ⟨b, hbm, h1, h2⟩ := good_block hgb mx my hst
    obtain ⟨i, hi, ei⟩ := at_of (hb b hbm) h1
    obtain ⟨j, hj, ej⟩ := at_of (hb b hbm) h2
    have mem : ∀ k, k < 3 → (X : Int) * w + u3 b k ∈ pB w b X := by
      intro k hk
      rcases (show k = 0 ∨ k = 1 ∨ k = 2 by omega) with rfl | rfl | rfl <;> simp [pB]
    refine ⟨sortI (pB w b X), List.mem_append_left _ (List.mem_flatMap.2 ⟨b, hbm, List.mem_flatMap.2 ⟨X, List.mem_range.2 bx, List.mem_singleton.2 rfl⟩⟩), sortI_mem.2 ?_, sortI_mem.2 ?_⟩
    · rw [← ei]; exact mem i hi
    · rw [← ej]; exact mem j hj
  · obtain ⟨c, hcm, h1, h2⟩ := good_block hga bx by' hXY
    obtain ⟨i, hi, ei⟩ := at_of (ha c hcm) h1
    obtain ⟨j, hj, ej⟩ := at_of (ha c hcm) h2
    have hij : i ≠ j := by rintro rfl; omega
    by_cases hst : s = t
    · subst hst
      have mem : ∀ k, k < 3 → u3 c k * w + (s : Int) ∈ pA w c s := by
        intro k hk
        rcases (show k = 0 ∨ k = 1 ∨ k = 2 by omega) with rfl | rfl | rfl <;> simp [pA]
      refine ⟨sortI (pA w c s), List.mem_append_right _ (List.mem_flatMap.2 ⟨c, hcm, List.mem_append_left _ (List.mem_flatMap.2 ⟨s, List.mem_range.2 mx, List.mem_singleton.2 rfl⟩)⟩), sortI_mem.2 ?_, sortI_mem.2 ?_⟩
      · rw [← ei]; exact mem i hi
      · rw [← ej]; exact mem j hj
    · obtain ⟨d, hdm, h3, h4⟩ := good_block hgb mx my hst
      obtain ⟨i', hi', ei'⟩ := at_of (hb d hdm) h3
      obtain ⟨j', hj', ej'⟩ := at_of (hb d hdm) h4
      have hij' : i' ≠ j' := by rintro rfl; omega
      obtain ⟨σ, hσ, s1, s2⟩ := six_all i hi j hj hij i' hi' j' hj' hij'
      refine ⟨sortI (pX w c d σ), List.mem_append_right _ (List.mem_flatMap.2 ⟨c, hcm, List.mem_append_right _ (List.mem_flatMap.2 ⟨d, hdm, List.mem_map.2 ⟨σ, hσ, rfl⟩⟩)⟩), sortI_mem.2 ?_, sortI_mem.2 ?_⟩
      · rw [← ei, ← ei', ← s1]; exact pX_mem hi
      · rw [← ej, ← ej', ← s2]; exact pX_mem hj
theorem prd_fault {v w : Nat} {la lb : List (List Int)} (ha : ∀ b, b ∈ la → tri v b) (hga : good v la = true) (hb : ∀ b, b ∈ lb → tri w b) (hgb : good w lb = true) (hv : 1 ≤ v) (hw : 1 ≤ w) (h2 : v * w ≤ 33) : tfault ((v * w : Nat) : Int) (sortL (PL v w la lb)) = 0 := by
  have hl := PL_leneq ha hga hb hgb hv hw
  have hp : 1 ≤ v * w := Nat.mul_le_mul hv hw
  have hm : (v * w) * (v * w - 1) ≤ 33 * 32 := Nat.mul_le_mul h2 (by omega)
  exact tfault_sort hp (by omega) (by omega) (PL_tri ha hb) (good_of_ex (PL_tri ha hb) hl (PL_ex ha hga hb hgb hw))
end Go.Gl
