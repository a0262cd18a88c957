/-
  L46: whatever is asked of all systems of few points: a search through them.
  Conditions: none; plain laws.
-/
import Derived.Test.YtjneiglpfdkehaaDoorL45
namespace Go.Gl
open Go Go.Gx Go.Gm
/-- The first pair from (p, q) on that lies in no block. -/
def scanU (v : Nat) (P : List (List Int)) : Nat → Nat → Nat → Option (Nat × Nat)
  | 0, _, _ => none
  | f + 1, p, q => if v ≤ p then none else if v ≤ q then scanU v P f (p + 1) (p + 2) else if cnt p q P = 0 then some (p, q) else scanU v P f p (q + 1)
theorem scanU_ok {v : Nat} {P : List (List Int)} {a b : Nat} : ∀ (f p q : Nat), p < q → AllBef v P p q → scanU v P f p q = some (a, b) → Fst v P a b
  | 0, _, _, _, _, h => by cases h
  | f + 1, p, q, hpq, hb, h => by
    unfold scanU at h
    split at h
    · cases h
    · split at h
      · rename_i h1 h2
        refine scanU_ok f (p + 1) (p + 2) (by omega) ?_ h
        intro p' q' g1 g2 g3
        exact hb p' q' g1 g2 (by omega)
      · split at h
        · rename_i h1 h2 h3
          cases h
          exact ⟨hpq, by omega, h3, hb⟩
        · rename_i h1 h2 h3
          refine scanU_ok f p (q + 1) (by omega) ?_ h
          intro p' q' g1 g2 g3
          by_cases e : p' = p ∧ q' = q
          · rw [e.1, e.2]; exact h3
          · exact hb p' q' g1 g2 (by omega)
/-- All systems that go on from some blocks, in order, pass a test. -/
def chkS (v : Nat) (test : List (List Int) → Bool) : Nat → List (List Int) → Bool
  | 0, P => test P
  | f + 1, P => match scanU v P (v * (v + 1)) 0 1 with
    | none => decide (6 * P.length = v * (v - 1)) && test P
    | some (p, q) => (List.range' (q + 1) (v - (q + 1))).all fun r => !(okR P p q r) || chkS v test f (P ++ [[(p : Int), (q : Int), (r : Int)]])
theorem cnt_mid {x y : Int} {P R : List (List Int)} {b : List Int} : cnt x y (P ++ b :: R) = cnt x y P + ((if two x y b = true then 1 else 0) + cnt x y R) := by
  have e : cnt x y (P ++ b :: R) = cnt x y P + cnt x y (b :: R) := List.countP_append ..
  rw [e, cnt_cons]
  omega
theorem cnt_mem {x y : Int} {l : List (List Int)} {b : List Int} (hb : b ∈ l) (h : two x y b = true) : 1 ≤ cnt x y l := by
  rcases Nat.eq_zero_or_pos (cnt x y l) with h0 | h0
  · exact (cnt_zero.1 h0 b hb (two_iff.1 h)).elim
  · exact h0
/-- The block that comes next. -/
theorem next_block {v p q : Nat} {P R : List (List Int)} {b : List Int} (h : Part v (P ++ b :: R)) (hfull : ∀ p q : Nat, p < q → q < v → cnt p q (P ++ b :: R) ≠ 0) (hs : ∀ c, c ∈ R → cmpL b c ≤ 0) (hF : Fst v P p q) :
    ∃ r : Nat, q < r ∧ r < v ∧ b = [(p : Int), (q : Int), (r : Int)] ∧ okR P p q r = true := by
  have hpq := hF.pq
  have hqv := hF.qv
  -- no two blocks, one of P and one behind, have a pair
  have apart : ∀ (x y : Int) (c : List Int), x ≠ y → c ∈ b :: R → two x y c = true → cnt x y P = 0 := by
    intro x y c hxy hc ht
    have h1 := h.one x y hxy
    rw [cnt_mid] at h1
    rcases List.mem_cons.1 hc with rfl | hc
    · rw [if_pos ht] at h1; omega
    · have := cnt_mem hc ht
      omega
  have single : ∀ (x y : Int) (c : List Int), x ≠ y → c ∈ R → two x y b = true → two x y c = true → False := by
    intro x y c hxy hc h1 h2
    have h3 := h.one x y hxy
    rw [cnt_mid, if_pos h1] at h3
    have := cnt_mem hc h2
    omega
  have hex : ∃ c, c ∈ b :: R ∧ two (p : Int) (q : Int) c = true := by
    have h1 := hfull p q hpq hqv
    have : ∃ c, c ∈ P ++ b :: R ∧ (p : Int) ∈ c ∧ (q : Int) ∈ c := Classical.byContradiction fun hn => h1 (cnt_zero.2 fun c hc hh => hn ⟨c, hc, hh⟩)
    obtain ⟨c, hc, h2, h3⟩ := this
    rcases List.mem_append.1 hc with hc | hc
    · exact (cnt_zero.1 hF.unc c hc ⟨h2, h3⟩).elim
    · exact ⟨c, hc, two_iff.2 ⟨h2, h3⟩⟩
  have early : ∀ (x y : Nat) (c : List Int), x < y → y < v → (x < p ∨ (x = p ∧ y < q)) → c ∈ b :: R → two (x : Int) (y : Int) c = true → False := by
    intro x y c h1 h2 h3 hc ht
    exact hF.bef x y h1 h2 h3 (apart x y c (by omega) hc ht)
  -- the block of the pair begins with it
  have form : ∀ c, c ∈ b :: R → two (p : Int) (q : Int) c = true → ∃ r : Nat, q < r ∧ r < v ∧ c = [(p : Int), (q : Int), (r : Int)] := by
    intro c hc ht
    obtain ⟨x, y, z, rfl, h0, h1, h2, h3⟩ := h.tri c (List.mem_append_right _ hc)
    obtain ⟨hp, hq⟩ := two_iff.1 ht
    simp only [List.mem_cons, List.not_mem_nil, or_false] at hp hq
    have hx : two ((x.toNat : Nat) : Int) ((y.toNat : Nat) : Int) [x, y, z] = true := two_iff.2 ⟨by simp; omega, by simp; omega⟩
    have hxz : two ((x.toNat : Nat) : Int) ((z.toNat : Nat) : Int) [x, y, z] = true := two_iff.2 ⟨by simp; omega, by simp; omega⟩
    by_cases g : x = p ∧ y = q
    · obtain ⟨rfl, rfl⟩ := g
      exact ⟨z.toNat, by omega, by omega, by simp; omega⟩
    · exfalso
      exact early x.toNat y.toNat _ (by omega) (by omega) (by omega) hc hx
  obtain ⟨c, hc, ht⟩ := hex
  obtain ⟨r, hr1, hr2, rfl⟩ := form c hc ht
  have hbc : b = [(p : Int), (q : Int), (r : Int)] := by
    rcases List.mem_cons.1 hc with hcb | hcR
    · exact hcb.symm
    · exfalso
      have hle := hs _ hcR
      obtain ⟨x, y, z, rfl, h0, h1, h2, h3⟩ := h.tri b (by simp)
      have hx : two ((x.toNat : Nat) : Int) ((y.toNat : Nat) : Int) [x, y, z] = true := two_iff.2 ⟨by simp; omega, by simp; omega⟩
      by_cases g : x.toNat < p ∨ (x.toNat = p ∧ y.toNat < q)
      · exact early x.toNat y.toNat _ (by omega) (by omega) g (List.mem_cons_self ..) hx
      · have hxp : x = p ∧ y = q := by
          simp only [cmpL] at hle
          split at hle
          · omega
          · split at hle
            · simp at hle
            · split at hle
              · omega
              · split at hle
                · simp at hle
                · omega
        obtain ⟨rfl, rfl⟩ := hxp
        exact single p q _ (by omega) hcR (two_iff.2 ⟨by simp, by simp⟩) ht
  subst hbc
  refine ⟨r, hr1, hr2, rfl, ?_⟩
  unfold okR
  rw [Bool.and_eq_true, beq_iff_eq, beq_iff_eq]
  exact ⟨apart p r _ (by omega) (List.mem_cons_self ..) (two_iff.2 ⟨by simp, by simp⟩), apart q r _ (by omega) (List.mem_cons_self ..) (two_iff.2 ⟨by simp, by simp⟩)⟩
theorem chkS_ok {v : Nat} {test : List (List Int) → Bool} : ∀ (f : Nat) (P R : List (List Int)), Part v (P ++ R) → 6 * (P ++ R).length = v * (v - 1) → R.Pairwise (fun b c => cmpL b c ≤ 0) → R.length ≤ f → chkS v test f P = true → test (P ++ R) = true
  | 0, P, R, h, hl, hs, hf, hc => by
    have : R = [] := List.eq_nil_of_length_eq_zero (by omega)
    subst this
    rw [List.append_nil]
    exact hc
  | f + 1, P, [], h, hl, hs, hf, hc => by
    rw [List.append_nil] at h hl ⊢
    unfold chkS at hc
    split at hc
    · rw [Bool.and_eq_true] at hc
      exact hc.2
    · rename_i p q he
      have hF := scanU_ok _ 0 1 (by omega) (fun p' q' h1 h2 h3 => by omega) he
      exact (h.full.1 hl p q hF.pq hF.qv hF.unc).elim
  | f + 1, P, b :: R, h, hl, hs, hf, hc => by
    unfold chkS at hc
    split at hc
    · rw [Bool.and_eq_true] at hc
      have := hc.1
      simp only [decide_eq_true_eq] at this
      simp only [List.length_append, List.length_cons] at hl
      omega
    · rename_i p q he
      have hF := scanU_ok _ 0 1 (by omega) (fun p' q' h1 h2 h3 => by omega) he
      obtain ⟨r, h1, h2, rfl, h3⟩ := next_block h (h.full.1 hl) (fun c hc => (List.pairwise_cons.1 hs).1 c hc) hF
      rw [List.all_eq_true] at hc
      have h4 := hc r (by rw [List.mem_range'_1]; omega)
      rw [h3] at h4
      have e : P ++ [(p : Int), (q : Int), (r : Int)] :: R = (P ++ [[(p : Int), (q : Int), (r : Int)]]) ++ R := by simp
      rw [e] at h hl ⊢
      refine chkS_ok f _ R h hl (List.pairwise_cons.1 hs).2 (by simp at hf; omega) ?_
      simpa using h4
theorem Part.perm {v : Nat} {a b : List (List Int)} (h : a.Perm b) (ha : Part v a) : Part v b :=
  ⟨fun c hc => ha.tri c (h.mem_iff.2 hc), fun x y hxy => by
    have := ha.one x y hxy
    unfold cnt at this ⊢
    rw [← h.countP_eq]; exact this⟩
/-- What a search through all systems of v points shows holds of each, its blocks in order. -/
theorem all_systems {v f : Nat} {test : List (List Int) → Bool} (hc : chkS v test f [] = true) (hf : v * (v - 1) ≤ 6 * f) {l : List (List Int)} (h : Part v l) (hl : 6 * l.length = v * (v - 1)) : test (sortL l) = true := by
  have hp : l.Perm (sortL l) := (List.mergeSort_perm _ _).symm
  have hs : (sortL l).Pairwise (fun a b => leL a b = true) := List.pairwise_mergeSort leL_trans leL_total l
  have hlen : (sortL l).length = l.length := hp.length_eq.symm
  exact chkS_ok f [] (sortL l) (h.perm hp) (by simpa [hlen] using hl) (hs.imp fun h => leL_iff.1 h) (by omega) hc
end Go.Gl
