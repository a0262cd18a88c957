/-
  L30: systems that are made of systems are systems.
  Conditions: none; plain laws.
-/
import Derived.Test.YtjneiglpfdkehaaDoorL26
namespace Go.Gl
open Go Go.Gx Go.Gm
theorem sortI_mem {l : List Int} {x : Int} : x ∈ sortI l ↔ x ∈ l := (List.mergeSort_perm _ _).mem_iff
theorem tri_sort {P : Int} {a b c : Int} (ha : 0 ≤ a ∧ a < P) (hb : 0 ≤ b ∧ b < P) (hc : 0 ≤ c ∧ c < P) (h1 : a ≠ b) (h2 : b ≠ c) (h3 : a ≠ c) : tri P (sortI [a, b, c]) := by
  have hp : (sortI [a, b, c]).Perm [a, b, c] := List.mergeSort_perm _ _
  have hs : (sortI [a, b, c]).Pairwise (fun x y => decide (x ≤ y) = true) := List.pairwise_mergeSort (le := fun x y : Int => decide (x ≤ y)) (by intro a b c; simp; omega) (by intro a b; simp; omega) _
  have hn : (sortI [a, b, c]).Nodup := hp.nodup_iff.2 (by simp; omega)
  have hl : (sortI [a, b, c]).length = 3 := by rw [sortI_len]; rfl
  have hm : ∀ x, x ∈ sortI [a, b, c] → 0 ≤ x ∧ x < P := by
    intro x hx
    have := hp.mem_iff.1 hx
    simp only [List.mem_cons, List.not_mem_nil, or_false] at this
    rcases this with rfl | rfl | rfl <;> assumption
  generalize sortI [a, b, c] = l at *
  match l, hl with
  | [x, y, z], _ =>
    simp only [List.pairwise_cons, List.mem_cons, List.not_mem_nil, or_false, forall_eq_or_imp, forall_eq, decide_eq_true_eq] at hs
    simp only [List.nodup_cons, List.mem_cons, List.not_mem_nil, or_false, not_or] at hn
    have h4 := hm x (by simp)
    have h5 := hm z (by simp)
    exact ⟨x, y, z, rfl, by omega, by omega, by omega, by omega⟩
theorem scan_of_tri {P : Int} : ∀ {L : List (List Int)}, (∀ b, b ∈ L → tri P b) → scan P L = 0
  | [], _ => rfl
  | b :: L, h => by
    obtain ⟨x, y, z, rfl, h1, h2, h3, h4⟩ := h b (List.mem_cons_self ..)
    have h0 : ck P [x, y, z] = 0 := by
      unfold ck
      have : ([x, y, z].any (outB P)) = false := by
        simp [outB]
        omega
      rw [this]
      simp [inc, h2, h3]
    unfold scan
    rw [if_pos h0]
    exact scan_of_tri fun c hc => h c (List.mem_cons_of_mem _ hc)
theorem good_of_ex {P : Nat} {L : List (List Int)} (ht : ∀ b, b ∈ L → tri P b) (hlen : 6 * L.length = P * (P - 1)) (hex : ∀ x, x < P → ∀ y, y < x → ∃ b, b ∈ L ∧ (x : Int) ∈ b ∧ (y : Int) ∈ b) : good P L = true := by
  rw [good_iff]
  have hge : ∀ x, x < P → ∀ y, y < x → 1 ≤ cnt x y L := by
    intro x hx y hy
    obtain ⟨b, hb, h1, h2⟩ := hex x hx y hy
    rcases Nat.eq_zero_or_pos (cnt x y L) with h | h
    · exact absurd ⟨h1, h2⟩ (cnt_zero.1 h b hb)
    · exact h
  have hs := pairs_sum ht
  have hg := S_gauss P
  have e1 : S P (fun x => S x (fun _ => 1)) = S P (fun x => x) := S_congr P fun x _ => by rw [S_const, Nat.mul_one]
  have e2 : S P (fun x => S x (fun _ => 1)) = S P (fun x => S x (fun y => cnt x y L)) := by rw [e1, hs]; omega
  have h1 := S_eq_of_le (f := fun x => S x (fun _ => 1)) (g := fun x => S x (fun y => cnt x y L)) P (fun x hx => S_le x fun y hy => hge x hx y hy) e2
  intro x hx y hy
  have h2 := S_eq_of_le (f := fun _ => 1) (g := fun y : Nat => cnt x y L) x (fun y hy => hge x hx y hy) (h1 x hx)
  exact (h2 y hy).symm
theorem tfault_of {P : Nat} {L : List (List Int)} (h1 : 1 ≤ P) (h2 : P ≤ 40) (h3 : L.length ≤ 200) (ht : ∀ b, b ∈ L → tri P b) (hg : good P L = true) : tfault P L = 0 := by
  have hd : dck P L = 0 := by
    unfold dck
    rw [if_neg (by omega), if_neg (by omega), if_neg (by omega)]
    exact scan_of_tri ht
  have h3 : len3 L = true := List.all_eq_true.2 fun b hb => by rw [tri_len (ht b hb)]; rfl
  unfold tfault
  rw [if_pos hd, if_pos h3, Int.toNat_natCast, if_pos hg]
theorem flat_leneq {α : Type} {g : α → List (List Int)} {c : Nat} : ∀ {l : List α}, (∀ a, a ∈ l → (g a).length = c) → (l.flatMap g).length = c * l.length
  | [], _ => by simp
  | a :: l, h => by
    have h1 := h a (List.mem_cons_self ..)
    have h2 := flat_leneq (l := l) fun b hb => h b (List.mem_cons_of_mem _ hb)
    rw [List.flatMap_cons, List.length_append, List.length_cons, Nat.mul_add]
    omega
theorem good_len {q : Nat} {l : List (List Int)} (ht : ∀ b, b ∈ l → tri q b) (hg : good q l = true) : 6 * l.length = q * (q - 1) := ((good_nc ht).1 hg).2
/-- Which block has two points. -/
theorem good_block {q : Nat} {l : List (List Int)} (hg : good q l = true) {x y : Nat} (hx : x < q) (hy : y < q) (hxy : x ≠ y) : ∃ b, b ∈ l ∧ (x : Int) ∈ b ∧ (y : Int) ∈ b := by
  have key : ∀ x y : Nat, x < q → y < x → ∃ b, b ∈ l ∧ (x : Int) ∈ b ∧ (y : Int) ∈ b := by
    intro x y hx hy
    have h1 := good_iff.1 hg x hx y hy
    apply Classical.byContradiction
    intro hn
    have : cnt x y l = 0 := cnt_zero.2 fun b hb h => hn ⟨b, hb, h⟩
    omega
  rcases Nat.lt_or_gt_of_ne hxy with h | h
  · obtain ⟨b, hb, h1, h2⟩ := key y x hy h
    exact ⟨b, hb, h2, h1⟩
  · exact key x y hx h
/-- A block's places. -/
theorem at_of {q : Nat} {b : List Int} (hb : tri q b) {x : Int} (hx : x ∈ b) : ∃ i, i < 3 ∧ u3 b i = x := by
  obtain ⟨u, v, w, rfl, _⟩ := hb
  simp only [List.mem_cons, List.not_mem_nil, or_false] at hx
  rcases hx with rfl | rfl | rfl
  · exact ⟨0, by omega, rfl⟩
  · exact ⟨1, by omega, rfl⟩
  · exact ⟨2, by omega, rfl⟩
theorem u3_mod (b : List Int) (i : Nat) : u3 b i = u3 b (i % 3) := by unfold u3; rw [Nat.mod_mod]
theorem u3_lt {q : Nat} {b : List Int} (hb : tri q b) (i : Nat) : 0 ≤ u3 b i ∧ u3 b i < q := by
  obtain ⟨_, _, _, _, o1, o2, o3, o4⟩ := tri_get hb
  rw [u3_mod]
  rcases (show i % 3 = 0 ∨ i % 3 = 1 ∨ i % 3 = 2 by omega) with h | h | h <;> rw [h] <;> omega
theorem u3_ne {q : Nat} {b : List Int} (hb : tri q b) {i j : Nat} (h : i % 3 ≠ j % 3) : u3 b i ≠ u3 b j := by
  obtain ⟨_, _, _, _, o1, o2, o3, o4⟩ := tri_get hb
  rw [u3_mod b i, u3_mod b j]
  rcases (show i % 3 = 0 ∨ i % 3 = 1 ∨ i % 3 = 2 by omega) with h1 | h1 | h1 <;> rcases (show j % 3 = 0 ∨ j % 3 = 1 ∨ j % 3 = 2 by omega) with h2 | h2 | h2 <;> rw [h1, h2] <;> omega
theorem b_eq {q : Nat} {b : List Int} (hb : tri q b) : b = [u3 b 0, u3 b 1, u3 b 2] := by
  obtain ⟨u, v, w, rfl, _⟩ := hb
  rfl
theorem sort_tri {P : Int} {b : List Int} (hb : tri P b) : sortI b = b := by
  obtain ⟨u, v, w, rfl, h1, h2, h3, h4⟩ := hb
  exact (sortI_unique (List.Perm.refl _) (by simp; omega)).symm

/-! ### Twice as many points -/
theorem DL_tri {p : Nat} {l : List (List Int)} (ht : ∀ b, b ∈ l → tri p b) : ∀ b, b ∈ DL p l → tri ((2 * p + 1 : Nat) : Int) b := by
  intro b hb
  unfold DL at hb
  rcases List.mem_append.1 hb with hb | hb
  · obtain ⟨x, hx, hb⟩ := List.mem_flatMap.1 hb
    rw [List.mem_range] at hx
    rw [List.mem_singleton.1 hb]
    exact tri_sort (by omega) (by omega) (by omega) (by omega) (by omega) (by omega)
  · obtain ⟨c, hc, hb⟩ := List.mem_flatMap.1 hb
    have hc := ht c hc
    have l0 := u3_lt hc
    have row : ∀ i, tri ((2 * p + 1 : Nat) : Int) (sortI (rD p c i)) := by
      intro i
      have n1 : u3 c (i + 1) ≠ u3 c (i + 2) := u3_ne hc (by omega)
      have := l0 i
      have := l0 (i + 1)
      have := l0 (i + 2)
      exact tri_sort (by omega) (by omega) (by omega) (by omega) (by omega) (by omega)
    simp only [rB, List.mem_cons, List.not_mem_nil, or_false] at hb
    rcases hb with rfl | rfl | rfl | rfl
    · rw [sort_tri hc]; exact tri_mono hc (by omega)
    · exact row 0
    · exact row 1
    · exact row 2
theorem DL_leneq {p : Nat} {l : List (List Int)} (ht : ∀ b, b ∈ l → tri p b) (hg : good p l = true) (hp : 1 ≤ p) : 6 * (DL p l).length = (2 * p + 1) * (2 * p + 1 - 1) := by
  have h1 := good_len ht hg
  have h2 := flat_leneq (g := rB p) (c := 4) (l := l) (fun _ _ => rfl)
  unfold DL
  rw [List.length_append, flat1, h2]
  obtain ⟨k, rfl⟩ : ∃ k, p = k + 1 := ⟨p - 1, by omega⟩
  have e : (k + 1) * (k + 1 - 1) = k * k + k := by rw [Nat.add_sub_cancel, Nat.add_mul]; omega
  have e2 : (2 * (k + 1) + 1) * (2 * (k + 1) + 1 - 1) = 4 * (k * k) + 10 * k + 6 := by
    rw [show 2 * (k + 1) + 1 - 1 = 2 * k + 2 by omega, show 2 * (k + 1) + 1 = 2 * k + 3 by omega, Nat.add_mul, Nat.mul_add, Nat.mul_add, show 2 * k * (2 * k) = 4 * (k * k) by rw [Nat.mul_mul_mul_comm]]
    omega
  rw [e] at h1
  rw [e2]
  omega
theorem DL_ex {p : Nat} {l : List (List Int)} (ht : ∀ b, b ∈ l → tri p b) (hg : good p l = true) : ∀ x, x < 2 * p + 1 → ∀ y, y < x → ∃ b, b ∈ DL p l ∧ (x : Int) ∈ b ∧ (y : Int) ∈ b := by
  have mA : ∀ z : Nat, z < p → sortI (rD0 p z) ∈ DL p l := fun z hz => List.mem_append_left _ (List.mem_flatMap.2 ⟨z, List.mem_range.2 hz, List.mem_singleton.2 rfl⟩)
  have mB : ∀ b, b ∈ l → ∀ i, i < 3 → sortI (rD p b i) ∈ DL p l := by
    intro b hb i hi
    refine List.mem_append_right _ (List.mem_flatMap.2 ⟨b, hb, ?_⟩)
    rcases (show i = 0 ∨ i = 1 ∨ i = 2 by omega) with rfl | rfl | rfl <;> simp [rB]
  have mC : ∀ b, b ∈ l → sortI b ∈ DL p l := fun b hb => List.mem_append_right _ (List.mem_flatMap.2 ⟨b, hb, by simp [rB]⟩)
  -- the place of one of a block's points, among the two behind another place
  have raised : ∀ {b : List Int} (i j : Nat), i < 3 → j < 3 → i ≠ j → ∀ c, u3 b j + c ∈ [u3 b i, u3 b (i + 1) + c, u3 b (i + 2) + c] := by
    intro b i j hi hj hij c
    simp only [List.mem_cons, List.not_mem_nil, or_false]
    rw [u3_mod b (i + 1), u3_mod b (i + 2)]
    rcases (show j = (i + 1) % 3 ∨ j = (i + 2) % 3 by omega) with h | h
    · exact .inr (.inl (by rw [h]))
    · exact .inr (.inr (by rw [h]))
  intro x hx y hy
  by_cases h2p : x = 2 * p
  · subst h2p
    rcases Nat.lt_or_ge y p with h | h
    · exact ⟨_, mA y h, sortI_mem.2 (by simp [rD0]), sortI_mem.2 (by simp [rD0])⟩
    · refine ⟨_, mA (y - p) (by omega), sortI_mem.2 (by simp [rD0]), sortI_mem.2 ?_⟩
      simp only [rD0, List.mem_cons, List.not_mem_nil, or_false]
      omega
  rcases Nat.lt_or_ge x p with h | h
  · obtain ⟨b, hb, h1, h2⟩ := good_block hg h (show y < p by omega) (by omega)
    exact ⟨_, mC b hb, sortI_mem.2 h1, sortI_mem.2 h2⟩
  · rcases Nat.lt_or_ge y p with h' | h'
    · by_cases he : x - p = y
      · refine ⟨_, mA y h', sortI_mem.2 ?_, sortI_mem.2 (by simp [rD0])⟩
        simp only [rD0, List.mem_cons, List.not_mem_nil, or_false]
        omega
      · obtain ⟨b, hb, h1, h2⟩ := good_block hg (show x - p < p by omega) h' he
        obtain ⟨i, hi, ei⟩ := at_of (ht b hb) h1
        obtain ⟨j, hj, ej⟩ := at_of (ht b hb) h2
        have hij : j ≠ i := by rintro rfl; omega
        refine ⟨_, mB b hb j hj, sortI_mem.2 ?_, sortI_mem.2 ?_⟩
        · have := raised (b := b) j i hj hi hij p
          rw [ei] at this
          rw [show (x : Int) = ((x - p : Nat) : Int) + p by omega]
          exact this
        · simp [rD, ej]
    · obtain ⟨b, hb, h1, h2⟩ := good_block hg (show x - p < p by omega) (show y - p < p by omega) (by omega)
      obtain ⟨i, hi, ei⟩ := at_of (ht b hb) h1
      obtain ⟨j, hj, ej⟩ := at_of (ht b hb) h2
      have hij : i ≠ j := by rintro rfl; omega
      obtain ⟨k, hk, hki, hkj⟩ : ∃ k, k < 3 ∧ k ≠ i ∧ k ≠ j := by
        refine ⟨3 - i - j, by omega, ?_, ?_⟩ <;> omega
      refine ⟨_, mB b hb k hk, sortI_mem.2 ?_, sortI_mem.2 ?_⟩
      · have := raised (b := b) k i hk hi hki p
        rw [ei] at this
        rw [show (x : Int) = ((x - p : Nat) : Int) + p by omega]
        exact this
      · have := raised (b := b) k j hk hj hkj p
        rw [ej] at this
        rw [show (y : Int) = ((y - p : Nat) : Int) + p by omega]
        exact this
theorem cnt_perm {x y : Int} {a b : List (List Int)} (h : a.Perm b) : cnt x y a = cnt x y b := h.countP_eq _
theorem good_perm {P : Nat} {a b : List (List Int)} (h : a.Perm b) : good P a = good P b := by
  unfold good
  congr 1
  funext x
  congr 1
  funext y
  rw [cnt_perm h]
theorem tfault_sort {P : Nat} {L : List (List Int)} (h1 : 1 ≤ P) (h2 : P ≤ 40) (h3 : L.length ≤ 200) (ht : ∀ b, b ∈ L → tri P b) (hg : good P L = true) : tfault P (sortL L) = 0 :=
  tfault_of h1 h2 (by rw [sortL_len]; exact h3) (fun b hb => ht b (sortL_mem.1 hb)) (by rw [good_perm (show (sortL L).Perm L from List.mergeSort_perm _ _)]; exact hg)
theorem dbl_fault {p : Nat} {l : List (List Int)} (ht : ∀ b, b ∈ l → tri p b) (hg : good p l = true) (h1 : 1 ≤ p) (h2 : 2 * p + 1 ≤ 33) : tfault ((2 * p + 1 : Nat) : Int) (sortL (DL p l)) = 0 := by
  have hl := DL_leneq ht hg h1
  have hb : (2 * p + 1) * (2 * p + 1 - 1) ≤ 33 * 32 := Nat.mul_le_mul h2 (by omega)
  exact tfault_sort (by omega) (by omega) (by omega) (DL_tri ht) (good_of_ex (DL_tri ht) hl (DL_ex ht hg))
end Go.Gl
