/-
  L40: blocks that grow: which pairs lie in a block, and the first that does not.
  Conditions: none; plain laws.
-/
import Derived.Test.YtjneiglpfdkehaaDoorL7
import Derived.Test.YtjneiglpfdkehaaDoorL9
import Derived.Test.YtjneiglpfdkehaaDoorL21
namespace Go.Gl
open Go Go.Gx Go.Gm
theorem least {P : Nat → Prop} : ∀ n, P n → ∃ m, P m ∧ ∀ k, k < m → ¬ P k := by
  intro n
  induction n using Nat.strongRecOn with
  | _ n ih =>
    intro h
    by_cases hk : ∃ k, k < n ∧ P k
    · obtain ⟨k, hk, hp⟩ := hk
      exact ih k hk hp
    · exact ⟨n, h, fun k hk' hp => hk ⟨k, hk', hp⟩⟩
/-- All pairs before this one lie in a block. -/
def AllBef (v : Nat) (l : List (List Int)) (p q : Nat) : Prop := ∀ p' q' : Nat, p' < q' → q' < v → (p' < p ∨ (p' = p ∧ q' < q)) → cnt p' q' l ≠ 0
/-- The first pair that lies in no block. -/
structure Fst (v : Nat) (l : List (List Int)) (p q : Nat) : Prop where
  pq : p < q
  qv : q < v
  unc : cnt p q l = 0
  bef : AllBef v l p q
theorem first_ex (v : Nat) (l : List (List Int)) : (∀ p q : Nat, p < q → q < v → cnt p q l ≠ 0) ∨ ∃ p q, Fst v l p q := by
  by_cases h : ∃ p : Nat, ∃ q : Nat, p < q ∧ q < v ∧ cnt p q l = 0
  · right
    obtain ⟨p0, h⟩ := h
    obtain ⟨p, hp, hpm⟩ := least (P := fun p : Nat => ∃ q : Nat, p < q ∧ q < v ∧ cnt p q l = 0) p0 h
    obtain ⟨q0, hq0⟩ := hp
    obtain ⟨q, ⟨h1, h2, h3⟩, hqm⟩ := least (P := fun q : Nat => p < q ∧ q < v ∧ cnt p q l = 0) q0 hq0
    refine ⟨p, q, h1, h2, h3, fun p' q' g1 g2 g3 g4 => ?_⟩
    rcases g3 with g3 | ⟨rfl, g3⟩
    · exact hpm p' g3 ⟨q', g1, g2, g4⟩
    · exact hqm q' g3 ⟨g1, g2, g4⟩
  · left
    intro p q h1 h2 h3
    exact h ⟨p, q, h1, h2, h3⟩
/-- A list of blocks of v points, of which no two share two points. -/
structure Part (v : Nat) (l : List (List Int)) : Prop where
  tri : ∀ b, b ∈ l → tri v b
  one : ∀ x y : Int, x ≠ y → cnt x y l ≤ 1
theorem part_nc {v : Nat} {l : List (List Int)} (ht : ∀ b, b ∈ l → tri v b) : NC [] l ↔ Part v l := by
  have h := NC_cnt l [] (fun u w _ => by simp [cnt])
  simp only [List.nil_append] at h
  rw [h]
  exact ⟨fun h => ⟨ht, h⟩, fun h => h.one⟩
theorem Part.full {v : Nat} {l : List (List Int)} (h : Part v l) : 6 * l.length = v * (v - 1) ↔ ∀ p q : Nat, p < q → q < v → cnt p q l ≠ 0 := by
  have hnc := (part_nc h.tri).2 h
  constructor
  · intro hl p q hpq hqv
    have hg := (good_nc h.tri).2 ⟨hnc, hl⟩
    rw [cnt_symm, good_iff.1 hg q hqv p hpq]
    omega
  · intro hc
    have hg : good v l = true := good_iff.2 fun x hx y hy => by
      have h1 := hc y x hy hx
      have h2 := h.one x y (by omega)
      rw [cnt_symm] at h1
      omega
    exact ((good_nc h.tri).1 hg).2
theorem Part.good {v : Nat} {l : List (List Int)} (h : Part v l) (hc : 6 * l.length = v * (v - 1)) : good v l = true :=
  (good_nc h.tri).2 ⟨(part_nc h.tri).2 h, hc⟩
theorem S_mono {f : Nat → Nat} {c : Nat} : ∀ (n : Nat), (∀ i, i < n → f i ≤ c) → S n f ≤ n * c
  | 0, _ => by simp [S]
  | n + 1, h => by
    rw [S_succ, Nat.succ_mul]
    exact Nat.add_le_add (S_mono n fun i hi => h i (by omega)) (h n (by omega))
theorem Part.len {v : Nat} {l : List (List Int)} (h : Part v l) : 6 * l.length ≤ v * (v - 1) := by
  have h1 := pairs_sum h.tri
  have h2 : S v (fun x => S x (fun y => cnt x y l)) ≤ S v (fun x => x) := by
    refine S_le v fun x _ => ?_
    have := S_mono (f := fun y : Nat => cnt x y l) (c := 1) x (fun y hy => h.one x y (by omega))
    simpa using this
  have h3 := S_gauss v
  omega
theorem mem3 {p q r : Nat} {u : Int} : u ∈ [(p : Int), (q : Int), (r : Int)] ↔ u = p ∨ u = q ∨ u = r := by simp
theorem Part.snoc {v : Nat} {l : List (List Int)} (h : Part v l) {p q r : Nat} (h1 : p < q) (h2 : q < r) (h3 : r < v) (c1 : cnt p q l = 0) (c2 : cnt p r l = 0) (c3 : cnt q r l = 0) : Part v (l ++ [[(p : Int), (q : Int), (r : Int)]]) := by
  refine ⟨fun b hb => ?_, fun x y hxy => ?_⟩
  · rcases List.mem_append.1 hb with hb | hb
    · exact h.tri b hb
    · rw [List.mem_singleton] at hb
      subst hb
      exact ⟨p, q, r, rfl, by omega, by omega, by omega, by omega⟩
  · rw [cnt_app]
    have := h.one x y hxy
    split
    · rename_i ht
      obtain ⟨hx, hy⟩ := two_iff.1 ht
      rw [mem3] at hx hy
      have c1' := c1; have c2' := c2; have c3' := c3
      rw [cnt_symm] at c1' c2' c3'
      rcases hx with rfl | rfl | rfl <;> rcases hy with rfl | rfl | rfl <;> first | exact (hxy rfl).elim | omega
    · omega
/-- The pairs of a block that comes on lie in a block. -/
theorem AllBef.snoc {v : Nat} {l : List (List Int)} {p q : Nat} {b : List Int} (h : AllBef v l p q) : AllBef v (l ++ [b]) p q := by
  intro p' q' h1 h2 h3
  have := h p' q' h1 h2 h3
  rw [cnt_app]
  omega
/-! ### How many points two blocks have together -/
theorem tog3 {x y z : Int} (hxy : x ≠ y) (hyz : y ≠ z) (hxz : x ≠ z) (b : List Int) : tog [x, y, z] b = (if x ∈ b then 1 else 0) + (if y ∈ b then 1 else 0) + (if z ∈ b then 1 else 0) := by
  unfold tog
  simp only [List.countP_cons, List.countP_nil, decide_eq_true_eq]
  omega
theorem mem_sum {u a b c : Int} (hab : a ≠ b) (hbc : b ≠ c) (hac : a ≠ c) : (if u ∈ [a, b, c] then 1 else 0) = (if u = a then 1 else 0) + (if u = b then 1 else 0) + (if u = c then 1 else 0) := by
  have : u ∈ [a, b, c] ↔ u = a ∨ u = b ∨ u = c := by simp
  simp only [this]
  by_cases h1 : u = a
  · subst h1; simp [hab, hac]
  · by_cases h2 : u = b
    · subst h2; simp [h1, hbc]
    · by_cases h3 : u = c
      · subst h3; simp [h1, h2]
      · simp [h1, h2, h3]
theorem tog_symm {v w : Int} {b c : List Int} (hb : tri v b) (hc : tri w c) : tog b c = tog c b := by
  obtain ⟨x, y, z, rfl, h0, h1, h2, h3⟩ := hb
  obtain ⟨a, d, e, rfl, g0, g1, g2, g3⟩ := hc
  rw [tog3 (by omega) (by omega) (by omega), tog3 (by omega) (by omega) (by omega)]
  rw [mem_sum (by omega) (by omega) (by omega), mem_sum (by omega) (by omega) (by omega), mem_sum (by omega) (by omega) (by omega), mem_sum (by omega) (by omega) (by omega), mem_sum (by omega) (by omega) (by omega), mem_sum (by omega) (by omega) (by omega)]
  simp only [eq_comm (a := a), eq_comm (a := d), eq_comm (a := e)]
  omega
theorem tog_share {v w : Int} {b c : List Int} (hb : tri v b) (hc : tri w c) : 1 < tog b c ↔ share2 b c := by
  have hbt := hb
  obtain ⟨x, y, z, rfl, h0, h1, h2, h3⟩ := hb
  rw [tog3 (by omega) (by omega) (by omega)]
  constructor
  · intro h
    by_cases hx : x ∈ c <;> by_cases hy : y ∈ c <;> by_cases hz : z ∈ c <;> simp [hx, hy, hz] at h
    · exact ⟨x, y, by omega, by simp, by simp, hx, hy⟩
    · exact ⟨x, y, by omega, by simp, by simp, hx, hy⟩
    · exact ⟨x, z, by omega, by simp, by simp, hx, hz⟩
    · exact ⟨y, z, by omega, by simp, by simp, hy, hz⟩
  · rintro ⟨u, t, hut, hu, ht, hu', ht'⟩
    simp only [List.mem_cons, List.not_mem_nil, or_false] at hu ht
    rcases hu with rfl | rfl | rfl <;> rcases ht with rfl | rfl | rfl <;> first | exact (hut rfl).elim | (simp only [hu', ht', if_true]; omega)
theorem all_tog {v : Nat} {l : List (List Int)} (ht : ∀ b, b ∈ l → tri v b) {p q r : Nat} (h1 : p < q) (h2 : q < r) : (l.all fun b => decide ((tog b [(p : Int), (q : Int), (r : Int)] : Int) < 2)) = true ↔ cnt p q l = 0 ∧ cnt p r l = 0 ∧ cnt q r l = 0 := by
  have hc : tri ((r + 1 : Nat) : Int) [(p : Int), (q : Int), (r : Int)] := ⟨p, q, r, rfl, by omega, by omega, by omega, by omega⟩
  rw [List.all_eq_true]
  constructor
  · intro h
    refine ⟨cnt_zero.2 fun b hb hh => ?_, cnt_zero.2 fun b hb hh => ?_, cnt_zero.2 fun b hb hh => ?_⟩
    all_goals
      have h3 := h b hb
      simp only [decide_eq_true_eq] at h3
      have := (tog_share (ht b hb) hc).2 ⟨_, _, by omega, hh.1, hh.2, by simp, by simp⟩
      omega
  · rintro ⟨c1, c2, c3⟩ b hb
    have k1 := cnt_zero.1 c1 b hb
    have k2 := cnt_zero.1 c2 b hb
    have k3 := cnt_zero.1 c3 b hb
    simp only [decide_eq_true_eq]
    rcases Nat.lt_or_ge 1 (tog b [(p : Int), (q : Int), (r : Int)]) with h | h
    · exfalso
      obtain ⟨u, t, hut, hu, ht', hu', ht''⟩ := (tog_share (ht b hb) hc).1 h
      rw [mem3] at hu' ht''
      rcases hu' with rfl | rfl | rfl <;> rcases ht'' with rfl | rfl | rfl <;> first | exact hut rfl | exact k1 ⟨hu, ht'⟩ | exact k1 ⟨ht', hu⟩ | exact k2 ⟨hu, ht'⟩ | exact k2 ⟨ht', hu⟩ | exact k3 ⟨hu, ht'⟩ | exact k3 ⟨ht', hu⟩
    · omega
end Go.Gl
