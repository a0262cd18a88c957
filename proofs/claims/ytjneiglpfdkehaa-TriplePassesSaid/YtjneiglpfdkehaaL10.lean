/-
  L10: what the program counts is six times what the document counts.
  Conditions: none; plain laws.
-/
import Derived.Test.YtjneiglpfdkehaaL9
namespace Go.Gl
open Go Go.Gx Go.Gm
/-! ### Sums over four -/
def S4 (n : Nat) (f : Nat → Nat → Nat → Nat → Nat) : Nat := S n fun a => S n fun b => S n fun c => S n fun d => f a b c d
theorem S4_congr {n : Nat} {f g : Nat → Nat → Nat → Nat → Nat} (h : ∀ a b c d, a < n → b < n → c < n → d < n → f a b c d = g a b c d) : S4 n f = S4 n g :=
  S_congr n fun a ha => S_congr n fun b hb => S_congr n fun c hc => S_congr n fun d hd => h a b c d ha hb hc hd
theorem S4_add (n : Nat) (f g : Nat → Nat → Nat → Nat → Nat) : S4 n (fun a b c d => f a b c d + g a b c d) = S4 n f + S4 n g := by
  unfold S4
  simp only [S_add]
theorem S4_12 (n : Nat) (f : Nat → Nat → Nat → Nat → Nat) : S4 n f = S4 n fun a b c d => f b a c d := by
  unfold S4
  exact S_swap (fun a b => S n fun c => S n fun d => f a b c d) n n
theorem S4_23 (n : Nat) (f : Nat → Nat → Nat → Nat → Nat) : S4 n f = S4 n fun a b c d => f a c b d := by
  unfold S4
  exact S_congr n fun a _ => S_swap (fun b c => S n fun d => f a b c d) n n
theorem S4_34 (n : Nat) (f : Nat → Nat → Nat → Nat → Nat) : S4 n f = S4 n fun a b c d => f a b d c := by
  unfold S4
  exact S_congr n fun a _ => S_congr n fun b _ => S_swap (fun c d => f a b c d) n n
/-- A chain that falls. -/
def ch (a b c d : Nat) : Nat := if b < a ∧ c < b ∧ d < c then 1 else 0
theorem six {n : Nat} {f : Nat → Nat → Nat → Nat → Nat} (h12 : ∀ a b c d, f a b c d = f b a c d) (h23 : ∀ a b c d, f a b c d = f a c b d) (h34 : ∀ a b c d, f a b c d = f a b d c) :
    S4 n (fun i j k m => if j < i ∧ m < k ∧ k ≠ i ∧ k ≠ j ∧ m ≠ i ∧ m ≠ j then f i j k m else 0) = 6 * S4 n (fun a b c d => ch a b c d * f a b c d) := by
  have e : S4 n (fun i j k m => if j < i ∧ m < k ∧ k ≠ i ∧ k ≠ j ∧ m ≠ i ∧ m ≠ j then f i j k m else 0) =
      S4 n (fun i j k m => ch i j k m * f i j k m + (ch i k j m * f i j k m + (ch i k m j * f i j k m + (ch k i j m * f i j k m + (ch k i m j * f i j k m + ch k m i j * f i j k m))))) := by
    refine S4_congr fun i j k m _ _ _ _ => ?_
    have : (if j < i ∧ m < k ∧ k ≠ i ∧ k ≠ j ∧ m ≠ i ∧ m ≠ j then 1 else 0) = ch i j k m + (ch i k j m + (ch i k m j + (ch k i j m + (ch k i m j + ch k m i j)))) := by
      unfold ch
      by_cases h1 : j < i
      · by_cases h2 : m < k
        · by_cases h3 : k = i
          · rw [if_neg (by omega), if_neg (by omega), if_neg (by omega), if_neg (by omega), if_neg (by omega), if_neg (by omega), if_neg (by omega)]
          · by_cases h4 : k = j
            · rw [if_neg (by omega), if_neg (by omega), if_neg (by omega), if_neg (by omega), if_neg (by omega), if_neg (by omega), if_neg (by omega)]
            · by_cases h5 : m = i
              · rw [if_neg (by omega), if_neg (by omega), if_neg (by omega), if_neg (by omega), if_neg (by omega), if_neg (by omega), if_neg (by omega)]
              · by_cases h6 : m = j
                · rw [if_neg (by omega), if_neg (by omega), if_neg (by omega), if_neg (by omega), if_neg (by omega), if_neg (by omega), if_neg (by omega)]
                · rw [if_pos (by omega)]
                  by_cases c1 : k < j
                  · rw [if_pos (by omega), if_neg (by omega), if_neg (by omega), if_neg (by omega), if_neg (by omega), if_neg (by omega)]
                  · by_cases c2 : k < i
                    · by_cases c3 : m < j
                      · rw [if_neg (by omega), if_pos (by omega), if_neg (by omega), if_neg (by omega), if_neg (by omega), if_neg (by omega)]
                      · rw [if_neg (by omega), if_neg (by omega), if_pos (by omega), if_neg (by omega), if_neg (by omega), if_neg (by omega)]
                    · by_cases c3 : m < j
                      · rw [if_neg (by omega), if_neg (by omega), if_neg (by omega), if_pos (by omega), if_neg (by omega), if_neg (by omega)]
                      · by_cases c4 : m < i
                        · rw [if_neg (by omega), if_neg (by omega), if_neg (by omega), if_neg (by omega), if_pos (by omega), if_neg (by omega)]
                        · rw [if_neg (by omega), if_neg (by omega), if_neg (by omega), if_neg (by omega), if_neg (by omega), if_pos (by omega)]
        · rw [if_neg (by omega), if_neg (by omega), if_neg (by omega), if_neg (by omega), if_neg (by omega), if_neg (by omega), if_neg (by omega)]
      · rw [if_neg (by omega), if_neg (by omega), if_neg (by omega), if_neg (by omega), if_neg (by omega), if_neg (by omega), if_neg (by omega)]
    have h2 : (if j < i ∧ m < k ∧ k ≠ i ∧ k ≠ j ∧ m ≠ i ∧ m ≠ j then f i j k m else 0) = (if j < i ∧ m < k ∧ k ≠ i ∧ k ≠ j ∧ m ≠ i ∧ m ≠ j then 1 else 0) * f i j k m := by split <;> simp
    rw [h2, this]
    simp only [Nat.add_mul]
  rw [e, S4_add, S4_add, S4_add, S4_add, S4_add]
  have t2 : S4 n (fun i j k m => ch i k j m * f i j k m) = S4 n (fun a b c d => ch a b c d * f a b c d) := by
    rw [S4_23]
    exact S4_congr fun a b c d _ _ _ _ => by rw [h23 a c b d]
  have t3 : S4 n (fun i j k m => ch i k m j * f i j k m) = S4 n (fun a b c d => ch a b c d * f a b c d) := by
    rw [S4_23, S4_34]
    exact S4_congr fun a b c d _ _ _ _ => by rw [h23 a d b c, h34 a b d c]
  have t4 : S4 n (fun i j k m => ch k i j m * f i j k m) = S4 n (fun a b c d => ch a b c d * f a b c d) := by
    rw [S4_23, S4_12]
    exact S4_congr fun a b c d _ _ _ _ => by rw [h23 b c a d, h12 b a c d]
  have t5 : S4 n (fun i j k m => ch k i m j * f i j k m) = S4 n (fun a b c d => ch a b c d * f a b c d) := by
    rw [S4_23, S4_12, S4_34]
    exact S4_congr fun a b c d _ _ _ _ => by rw [h23 b d a c, h12 b a d c, h34 a b d c]
  have t6 : S4 n (fun i j k m => ch k m i j * f i j k m) = S4 n (fun a b c d => ch a b c d * f a b c d) := by
    rw [S4_23, S4_12, S4_34, S4_23]
    exact S4_congr fun a b c d _ _ _ _ => by rw [h23 c d a b, h12 c a d b, h34 a c d b, h23 a c b d]
  rw [t2, t3, t4, t5, t6]
  omega
/-! ### Points of blocks -/
theorem tri_mem {p : Int} {b : List Int} (hb : tri p b) {u v : Int} (hu : u ∈ b) (hv : v ∈ b) (huv : u ≠ v) {w : Int} : w ∈ b ↔ w = u ∨ w = v ∨ w = sum3 b - u - v := by
  obtain ⟨x, y, z, rfl, h0, h1, h2, h3⟩ := hb
  simp only [List.mem_cons, List.not_mem_nil, or_false] at hu hv ⊢
  have hs : sum3 [x, y, z] = x + (y + (z + 0)) := rfl
  rw [hs]
  omega
theorem tri_range {p : Int} {b : List Int} (hb : tri p b) {u : Int} (hu : u ∈ b) : 0 ≤ u ∧ u < p := by
  obtain ⟨x, y, z, rfl, h0, h1, h2, h3⟩ := hb
  simp only [List.mem_cons, List.not_mem_nil, or_false] at hu
  omega
theorem oth_mem {q p : Int} {b : List Int} (hb : tri q b) (hp : p ∈ b) : (oth b p).1 ∈ b ∧ (oth b p).2 ∈ b ∧ (oth b p).1 ≠ p ∧ (oth b p).2 ≠ p ∧ (oth b p).1 ≠ (oth b p).2 := by
  obtain ⟨x, y, z, rfl, h0, h1, h2, h3⟩ := hb
  simp only [List.mem_cons, List.not_mem_nil, or_false] at hp
  unfold oth
  simp only
  split
  · exact ⟨by simp, by simp, by simp only; omega, by simp only; omega, by simp only; omega⟩
  · split
    · exact ⟨by simp, by simp, by simp only; omega, by simp only; omega, by simp only; omega⟩
    · exact ⟨by simp, by simp, by simp only; omega, by simp only; omega, by simp only; omega⟩
theorem oth_iff {q p : Int} {b : List Int} (hb : tri q b) (hp : p ∈ b) {u : Int} : u ∈ b ↔ u = p ∨ u = (oth b p).1 ∨ u = (oth b p).2 := by
  obtain ⟨h1, h2, h3, h4, h5⟩ := oth_mem hb hp
  rw [tri_mem hb h1 h2 h5]
  have := (tri_mem hb h1 h2 h5).1 hp
  omega
def ind (P : Prop) [Decidable P] : Nat := if P then 1 else 0
theorem ind_pos {P : Prop} [Decidable P] (h : P) : ind P = 1 := if_pos h
theorem ind_neg {P : Prop} [Decidable P] (h : ¬ P) : ind P = 0 := if_neg h
def dg (a b c d : List Int) (u : Int) : Nat := ind (u ∈ a) + ind (u ∈ b) + ind (u ∈ c) + ind (u ∈ d)
theorem psch_iff {q : Nat} {a b c d : List Int} (ta : tri q a) (tb : tri q b) (tc : tri q c) (td : tri q d) : psch q a b c d = true ↔ ∀ u : Int, dg a b c d u = 0 ∨ dg a b c d u = 2 := by
  unfold psch
  rw [List.all_eq_true]
  constructor
  · intro h u
    by_cases hu : 0 ≤ u ∧ u < q
    · obtain ⟨y, rfl⟩ := Int.eq_ofNat_of_zero_le hu.1
      have := h y (List.mem_range.2 (by omega))
      simpa [dg, deg, ind] using this
    · left
      have e : ∀ x, tri (q : Int) x → ¬ u ∈ x := fun x hx hux => hu (tri_range hx hux)
      unfold dg
      rw [ind_neg (e a ta), ind_neg (e b tb), ind_neg (e c tc), ind_neg (e d td)]
  · intro h y _
    have := h (y : Int)
    simpa [dg, deg, ind] using this
theorem psch_perm {q : Nat} {a b c d a' b' c' d' : List Int} (h : ∀ y, deg a b c d y = deg a' b' c' d' y) : psch q a b c d = psch q a' b' c' d' := by
  unfold psch
  congr 1
  funext y
  rw [h y]
theorem pf12 (q : Nat) (l : List (List Int)) (a b c d : Nat) : pf q l a b c d = pf q l b a c d := by
  unfold pf
  rw [psch_perm (q := q) fun y => show deg (l.getD a []) (l.getD b []) (l.getD c []) (l.getD d []) y = deg (l.getD b []) (l.getD a []) (l.getD c []) (l.getD d []) y by unfold deg; omega]
theorem pf23 (q : Nat) (l : List (List Int)) (a b c d : Nat) : pf q l a b c d = pf q l a c b d := by
  unfold pf
  rw [psch_perm (q := q) fun y => show deg (l.getD a []) (l.getD b []) (l.getD c []) (l.getD d []) y = deg (l.getD a []) (l.getD c []) (l.getD b []) (l.getD d []) y by unfold deg; omega]
theorem pf34 (q : Nat) (l : List (List Int)) (a b c d : Nat) : pf q l a b c d = pf q l a b d c := by
  unfold pf
  rw [psch_perm (q := q) fun y => show deg (l.getD a []) (l.getD b []) (l.getD c []) (l.getD d []) y = deg (l.getD a []) (l.getD b []) (l.getD d []) (l.getD c []) y by unfold deg; omega]
/-! ### A system -/
structure Sys (q : Nat) (l : List (List Int)) : Prop where
  tri : ∀ i, i < l.length → tri q (l.getD i [])
  uniq : ∀ i j u v, i < l.length → j < l.length → u ≠ v → u ∈ l.getD i [] → v ∈ l.getD i [] → u ∈ l.getD j [] → v ∈ l.getD j [] → i = j
  ex : ∀ u v : Int, 0 ≤ u → u < q → 0 ≤ v → v < q → u ≠ v → ∃ i, i < l.length ∧ u ∈ l.getD i [] ∧ v ∈ l.getD i []
theorem S_two {f : Nat → Nat} {n i j : Nat} (hi : i < n) (hj : j < n) (hij : i ≠ j) (h1 : f i ≠ 0) (h2 : f j ≠ 0) : 2 ≤ S n f := by
  have e : S n (fun k => (if k = i then 1 else 0) + (if k = j then 1 else 0)) ≤ S n f := S_le n fun k _ => by
    by_cases a : k = i
    · subst a; rw [if_pos rfl, if_neg hij]; omega
    · by_cases b : k = j
      · subst b; rw [if_neg a, if_pos rfl]; omega
      · rw [if_neg a, if_neg b]; omega
  rw [S_add, S_one 1 hi, S_one 1 hj] at e
  exact e
theorem cnt_S (u v : Int) (l : List (List Int)) : cnt u v l = S l.length fun i => if two u v (l.getD i []) = true then 1 else 0 := by
  unfold cnt
  exact countP_S (fun b => decide (u ∈ b) && decide (v ∈ b)) l
theorem sys_of {q : Nat} {l : List (List Int)} (ht : ∀ b, b ∈ l → tri q b) (hg : good q l = true) : Sys q l := by
  have htr : ∀ i, i < l.length → tri q (l.getD i []) := fun i hi => ht _ (List.mem_of_getElem? (getD_get hi))
  have hc1 : ∀ u v : Int, 0 ≤ u → u < q → 0 ≤ v → v < q → u ≠ v → cnt u v l = 1 := by
    intro u v h1 h2 h3 h4 h5
    obtain ⟨a, rfl⟩ := Int.eq_ofNat_of_zero_le h1
    obtain ⟨b, rfl⟩ := Int.eq_ofNat_of_zero_le h3
    rcases Nat.lt_or_gt_of_ne (show a ≠ b by omega) with h | h
    · rw [cnt_symm]; exact good_iff.1 hg b (by omega) a h
    · exact good_iff.1 hg a (by omega) b h
  refine ⟨htr, ?_, ?_⟩
  · intro i j u v hi hj huv hu hv hu' hv'
    have r1 := tri_range (htr i hi) hu
    have r2 := tri_range (htr i hi) hv
    have h1 := hc1 u v r1.1 r1.2 r2.1 r2.2 huv
    rw [cnt_S] at h1
    apply Classical.byContradiction
    intro hij
    have := S_two (f := fun i => if two u v (l.getD i []) = true then 1 else 0) hi hj hij (by rw [if_pos (two_iff.2 ⟨hu, hv⟩)]; omega) (by rw [if_pos (two_iff.2 ⟨hu', hv'⟩)]; omega)
    omega
  · intro u v h1 h2 h3 h4 h5
    have h := hc1 u v h1 h2 h3 h4 h5
    rw [cnt_S] at h
    obtain ⟨i, hi, hf⟩ := S_pos (show S l.length (fun i => if two u v (l.getD i []) = true then 1 else 0) ≠ 0 by omega)
    refine ⟨i, hi, ?_⟩
    split at hf
    · exact two_iff.1 (by assumption)
    · omega
section
variable {q : Nat} {l : List (List Int)}
/-- Of four blocks that make a pass each two meet. -/
theorem meet_of (h : Sys q l) {i j k m : Nat} (hi : i < l.length) (hj : j < l.length) (hk : k < l.length) (hm : m < l.length) (hik : i ≠ k) (him : i ≠ m)
    (hp : psch q (l.getD i []) (l.getD j []) (l.getD k []) (l.getD m []) = true) : ∃ p, p ∈ l.getD i [] ∧ p ∈ l.getD j [] := by
  have hd := (psch_iff (h.tri i hi) (h.tri j hj) (h.tri k hk) (h.tri m hm)).1 hp
  apply Classical.byContradiction
  intro hno
  have hno : ∀ p, p ∈ l.getD i [] → ¬ p ∈ l.getD j [] := fun p h1 h2 => hno ⟨p, h1, h2⟩
  have one : ∀ u, u ∈ l.getD i [] → u ∈ l.getD k [] ∨ u ∈ l.getD m [] := by
    intro u hu
    have := hd u
    unfold dg at this
    rw [ind_pos hu, ind_neg (hno u hu)] at this
    by_cases h1 : u ∈ l.getD k []
    · exact .inl h1
    · right
      apply Classical.byContradiction
      intro h2
      rw [ind_neg h1, ind_neg h2] at this
      omega
  obtain ⟨x, y, z, hb, h0, h1, h2, h3⟩ := h.tri i hi
  have mx : x ∈ l.getD i [] := by rw [hb]; simp
  have my : y ∈ l.getD i [] := by rw [hb]; simp
  have mz : z ∈ l.getD i [] := by rw [hb]; simp
  have nk : ∀ u v, u ∈ l.getD i [] → v ∈ l.getD i [] → u ≠ v → u ∈ l.getD k [] → v ∈ l.getD k [] → False := fun u v hu hv huv hu' hv' => hik (h.uniq i k u v hi hk huv hu hv hu' hv')
  have nm : ∀ u v, u ∈ l.getD i [] → v ∈ l.getD i [] → u ≠ v → u ∈ l.getD m [] → v ∈ l.getD m [] → False := fun u v hu hv huv hu' hv' => him (h.uniq i m u v hi hm huv hu hv hu' hv')
  rcases one x mx with ax | ax <;> rcases one y my with ay | ay <;> rcases one z mz with az | az
  · exact nk x y mx my (by omega) ax ay
  · exact nk x y mx my (by omega) ax ay
  · exact nk x z mx mz (by omega) ax az
  · exact nm y z my mz (by omega) ay az
  · exact nk y z my mz (by omega) ay az
  · exact nm x z mx mz (by omega) ax az
  · exact nm x y mx my (by omega) ax ay
  · exact nm x y mx my (by omega) ax ay
theorem tog_one (h : Sys q l) {i j : Nat} (hi : i < l.length) (hj : j < l.length) (hij : i ≠ j) {p : Int} (h1 : p ∈ l.getD i []) (h2 : p ∈ l.getD j []) : tg l i j = true := by
  unfold tg
  simp only [beq_iff_eq]
  obtain ⟨x, y, z, hb, h0, h3, h4, h5⟩ := h.tri i hi
  have no : ∀ u v, u ∈ l.getD i [] → v ∈ l.getD i [] → u ≠ v → u ∈ l.getD j [] → ¬ v ∈ l.getD j [] := fun u v hu hv huv hu' hv' => hij (h.uniq i j u v hi hj huv hu hv hu' hv')
  unfold tog
  rw [hb] at h1 no ⊢
  generalize l.getD j [] = B at *
  simp only [List.countP_cons, List.countP_nil]
  simp only [List.mem_cons, List.not_mem_nil, or_false] at h1
  have n1 := no x y (by simp) (by simp) (by omega)
  have n2 := no x z (by simp) (by simp) (by omega)
  have n3 := no y z (by simp) (by simp) (by omega)
  rcases h1 with rfl | rfl | rfl
  · simp [h2, n1 h2, n2 h2]
  · have : ¬ x ∈ B := fun hx => n1 hx h2
    simp [h2, this, n3 h2]
  · have a1 : ¬ x ∈ B := fun hx => n2 hx h2
    have a2 : ¬ y ∈ B := fun hx => n3 hx h2
    simp [h2, a1, a2]
theorem tg_of (h : Sys q l) {i j k m : Nat} (hi : i < l.length) (hj : j < l.length) (hk : k < l.length) (hm : m < l.length) (hij : i ≠ j) (hik : i ≠ k) (him : i ≠ m) (hp : pf q l i j k m ≠ 0) : tg l i j = true := by
  unfold pf at hp
  split at hp
  · rename_i hps
    obtain ⟨p, h1, h2⟩ := meet_of h hi hj hk hm hik him hps
    exact tog_one h hi hj hij h1 h2
  · omega
/-! ### The document's sum, over four -/
theorem passes_S4 (h : Sys q l) : passes q l = S4 l.length fun a b c d => ch a b c d * pf q l a b c d := by
  have e1 : passes q l = S4 l.length fun i j k m => if i < j ∧ j < k ∧ k < m then pf q l i j k m else 0 := by
    unfold passes S4
    have from' : ∀ (a : Nat) (g : Nat → Nat), a < l.length → S (l.length - (a + 1)) (fun j => g (a + 1 + j)) = S l.length (fun j => if a + 1 ≤ j then g j else 0) := by
      intro a g ha
      have := S_from (a := a + 1) g (l.length - (a + 1))
      rw [show a + 1 + (l.length - (a + 1)) = l.length by omega] at this
      exact this.symm
    refine S_congr _ fun i hi => ?_
    unfold pf1
    rw [from' i (fun j => if tg l i j = true then pf2 q l i j else 0) hi]
    refine S_congr _ fun j hj => ?_
    by_cases hij : i + 1 ≤ j
    · rw [if_pos hij]
      unfold pf2
      rw [from' j (fun k => if tg l i k = true ∧ tg l j k = true then pf3 q l i j k else 0) hj]
      by_cases ht : tg l i j = true
      · rw [if_pos ht]
        refine S_congr _ fun k hk => ?_
        by_cases hjk : j + 1 ≤ k
        · rw [if_pos hjk]
          unfold pf3
          rw [from' k (fun m => pf q l i j k m) hk]
          by_cases ht' : tg l i k = true ∧ tg l j k = true
          · rw [if_pos ht']
            refine S_congr _ fun m hm => ?_
            by_cases hkm : k + 1 ≤ m
            · rw [if_pos hkm]
              exact (if_pos (by omega)).symm
            · rw [if_neg hkm]
              exact (if_neg (by omega)).symm
          · rw [if_neg ht']
            refine (S_zero' fun m hm => ?_).symm
            show (if i < j ∧ j < k ∧ k < m then pf q l i j k m else 0) = 0
            split
            · rename_i hlt
              apply Classical.byContradiction
              intro hp
              refine ht' ⟨tg_of h hi hk hj hm (by omega) (by omega) (by omega) (by rw [← pf23]; exact hp), tg_of h hj hk hi hm (by omega) (by omega) (by omega) (by rw [← pf23, ← pf12]; exact hp)⟩
            · rfl
        · rw [if_neg hjk]
          exact (S_zero' fun m hm => if_neg (by omega)).symm
      · rw [if_neg ht]
        refine (S_zero' fun k hk => S_zero' fun m hm => ?_).symm
        show (if i < j ∧ j < k ∧ k < m then pf q l i j k m else 0) = 0
        split
        · rename_i hlt
          apply Classical.byContradiction
          intro hp
          exact ht (tg_of h hi hj hk hm (by omega) (by omega) (by omega) hp)
        · rfl
    · rw [if_neg hij]
      exact (S_zero' fun k hk => S_zero' fun m hm => if_neg (by omega)).symm
  rw [e1, S4_12, S4_34, S4_23, S4_12, S4_34, S4_23]
  refine S4_congr fun a b c d _ _ _ _ => ?_
  have hpf : pf q l d c b a = pf q l a b c d := by
    rw [pf12 q l d c b a, pf34 q l c d b a, pf23 q l c d a b, pf12 q l c a d b, pf34 q l a c d b, pf23 q l a c b d]
  unfold ch
  by_cases hc : b < a ∧ c < b ∧ d < c
  · rw [if_pos hc, if_pos (by omega), hpf]; omega
  · rw [if_neg hc, if_neg (by omega)]; omega
end
end Go.Gl
