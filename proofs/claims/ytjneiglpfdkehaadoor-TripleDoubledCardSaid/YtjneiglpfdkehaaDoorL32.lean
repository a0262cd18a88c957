/-
  L32: the law of doubled and multiplied systems.
  Conditions: none; plain laws.
-/
import Derived.Test.YtjneiglpfdkehaaDoorL31
import Derived.Test.YtjneiglpfdkehaaDoorL9
namespace Go.Gl
open Go Go.Gx Go.Gm
def fanoRaw : List (List Int) := [sortI [0, 2, 4], sortI [6, 1, 2], sortI [6, 3, 4], sortI [6, 5, 0], sortI [0, 1, 3], sortI [2, 3, 5], sortI [4, 5, 1]]
def fano : List (List Int) := [[0, 2, 4], [1, 2, 6], [3, 4, 6], [0, 5, 6], [0, 1, 3], [2, 3, 5], [1, 4, 5]]
theorem fano_tri : ∀ b, b ∈ fano → tri ((7 : Nat) : Int) b := by
  intro b hb
  simp only [fano, List.mem_cons, List.not_mem_nil, or_false] at hb
  rcases hb with rfl | rfl | rfl | rfl | rfl | rfl | rfl <;> exact ⟨_, _, _, rfl, by omega, by omega, by omega, by omega⟩
theorem fano_raw : fanoRaw = fano := by
  have e : ∀ a b : List Int, b ∈ fano → a.Perm b → sortI a = b := fun a b hb hp => (sortI_perm hp).trans (sort_tri (fano_tri b hb))
  unfold fanoRaw fano
  rw [e [0, 2, 4] [0, 2, 4] (by simp [fano]) (by decide), e [6, 1, 2] [1, 2, 6] (by simp [fano]) (by decide), e [6, 3, 4] [3, 4, 6] (by simp [fano]) (by decide), e [6, 5, 0] [0, 5, 6] (by simp [fano]) (by decide), e [0, 1, 3] [0, 1, 3] (by simp [fano]) (by decide), e [2, 3, 5] [2, 3, 5] (by simp [fano]) (by decide), e [4, 5, 1] [1, 4, 5] (by simp [fano]) (by decide)]
theorem fano_good : good 7 fano = true := by decide
theorem skolem7 (k : Nat) : triple_system_skolem (k + 20) [] 7 1 = some (fanoRaw, 7) := by kernel_rfl
theorem make7 (k : Nat) : triple_Make (k + 20) 7 = bnd (triple_system_skolem (k + 20) [] 7 1) fun z1 => bnd (triple_system_design (k + 20) z1.1 z1.2) fun z2 => some (z2.1, z2.2.1, 0) := by kernel_rfl
theorem okB_tri {n : Nat} {P : Int} {L : List (List Int)} (hl : L.length < n) (hl2 : L.length ≤ 1000000) (hn : 3 < n) (ht : ∀ b, b ∈ L → tri P b) : okB n L :=
  ⟨by omega, hl, fun b hb => by have := tri_len (ht b hb); omega⟩
theorem fact_eq {n : Nat} (hn : 2000 < n) : law2_tripleFact n = some true := by
  obtain ⟨k, rfl⟩ : ∃ k, n = k + 20 := ⟨n - 20, by omega⟩
  have hf : fano.length = 7 := rfl
  have ht := tfault_sort (P := 7) (L := fano) (by omega) (by omega) (by omega) fano_tri fano_good
  have hs : ∀ b, b ∈ sortL fano → tri ((7 : Nat) : Int) b := fun b hb => fano_tri b (sortL_mem.1 hb)
  unfold law2_tripleFact
  rw [make7, skolem7, bnd_sm, fano_raw]
  dsimp only
  rw [design_eq (by omega) (fun b hb => by have := tri_len (fano_tri b hb); omega), bnd_sm, bnd_sm]
  dsimp only
  rw [Check_eq' (okB_tri (by rw [sortL_len]; omega) (by rw [sortL_len]; omega) (by omega) hs) (by omega), bnd_sm, show tfault 7 (sortL fano) = 0 from ht, sortL_len]
  rfl
theorem tog_count {p P : Nat} {D : List (List Int)} {b : List Int} (hb : tri p b) (hpP : p ≤ P) (hg : good P D = true) (hm : b ∈ D) : (D.countP fun d => tog b d == 3) = 1 := by
  obtain ⟨_, _, _, hlen, o1, o2, o3, o4⟩ := tri_get hb
  have h1 : 1 ≤ D.countP fun d => tog b d == 3 := by
    refine List.countP_pos_iff.2 ⟨b, hm, ?_⟩
    have : tog b b = b.length := by
      unfold tog
      exact List.countP_eq_length.2 fun x hx => by simpa using hx
    rw [this, hlen]
    rfl
  have h2 : (D.countP fun d => tog b d == 3) ≤ cnt (u3 b 1) (u3 b 0) D := by
    unfold cnt
    refine List.countP_mono_left fun d _ h => ?_
    have h3 : tog b d = b.length := by rw [hlen]; simpa using h
    unfold tog at h3
    have h4 := List.countP_eq_length.1 h3
    have m0 := h4 (u3 b 0) (by rw [b_eq hb]; simp [u3])
    have m1 := h4 (u3 b 1) (by rw [b_eq hb]; simp [u3])
    rw [m0, m1]
    rfl
  have h5 : cnt (u3 b 1) (u3 b 0) D = 1 := by
    have := good_iff.1 hg (u3 b 1).toNat (by omega) (u3 b 0).toNat (by omega)
    rwa [show (((u3 b 1).toNat : Nat) : Int) = u3 b 1 by omega, show (((u3 b 0).toNat : Nat) : Int) = u3 b 0 by omega] at this
  omega
section
variable {ρ : Type}
theorem td_l14 {n : Nat} {p q P t9 : Int} {l m D : List (List Int)} {i : Nat} (hi : i < l.length) (ht9 : t9 = (i : Int)) (hl : l.length ≤ 200) (hb : l[i].length = 3) (hD : ∀ d, d ∈ D → d.length = 3) (hDl : D.length ≤ 200) (hn : 2000 < n) (k0 : Int → Option ρ) :
    law2_TripleDoubled_l14 n p l q m P D t9 0 0 k0 = k0 ((D.countP fun d => tog l[i] d == 3 : Nat) : Int) := by
  subst ht9
  unfold law2_TripleDoubled_l14
  have h1 := iter_list (σ := Int) (step := fun (s : Int × Int) nx => law2_TripleDoubled_s14 n p l q m P D (i : Int) s.1 s.2 (fun a0 a1 => nx (a0, a1)) k0) D (fun j c => (c, (j : Int))) (fun d c nx => if (tog l[i] d == 3) = true then nx (IntKind.i64.wrap (c + 1)) else nx c) k0
    (fun j c nx hj => by
      dsimp only
      unfold law2_TripleDoubled_s14
      have hd := hD _ (List.getElem_mem hj)
      rw [brO_pos (by omega), chk_pos (by omega), chk_pos (by omega), Int.toNat_natCast, bnd_get hi, chk_pos (by omega), chk_pos (by omega), Int.toNat_natCast, bnd_get hj, Together_eq (by omega) (by omega) (by omega) (by omega), bnd_sm, w64s (by omega)]
      by_cases h : tog l[i] D[j] = 3
      · rw [show ((tog l[i] D[j] : Int) == 3) = true by simp; omega, brO_tt, if_pos (by simpa using h)]
      · rw [show ((tog l[i] D[j] : Int) == 3) = false by simp; omega, brO_ff, if_neg (by simpa using h)])
    (fun c nx => by
      dsimp only
      unfold law2_TripleDoubled_s14
      rw [brO_neg (by omega)]) n 0 0 (by omega) (by omega)
  rw [List.drop_zero] at h1
  refine Eq.trans h1 ?_
  have h2 := foldO_countW (fun d => tog l[i] d == 3) k0 D 0 (by omega)
  rw [Nat.zero_add] at h2
  exact h2
theorem td_l10 {n : Nat} {p q P : Int} {l m D : List (List Int)} (hl : l.length ≤ 200) (hb : ∀ b, b ∈ l → b.length = 3) (hD : ∀ d, d ∈ D → d.length = 3) (hDl : D.length ≤ 200) (hn : 2000 < n) (hc : ∀ b, b ∈ l → (D.countP fun d => tog b d == 3) = 1) (k0 k1 : Option ρ) :
    law2_TripleDoubled_l10 n p l q m P D 0 k0 k1 = k1 := by
  unfold law2_TripleDoubled_l10
  have main : ∀ k i : Nat, i ≤ l.length → l.length < i + k → iterM (fun (s : Int) nx => law2_TripleDoubled_s10 n p l q m P D s nx k0 k1) k (i : Int) = k1 := by
    intro k
    induction k with
    | zero => intro i h1 h2; omega
    | succ k ih =>
      intro i h1 h2
      rw [iterM_succ]
      generalize hN : iterM (fun (s : Int) nx => law2_TripleDoubled_s10 n p l q m P D s nx k0 k1) k = N
      unfold law2_TripleDoubled_s10
      rcases Nat.lt_or_ge i l.length with hi | hi
      · have hm := List.getElem_mem hi
        rw [brO_pos (by omega), td_l14 hi rfl hl (hb _ hm) hD hDl hn, hc _ hm, show (((1 : Nat) : Int) != 1) = false from rfl, brO_ff, w64s (by omega), ← hN]
        exact ih (i + 1) hi (by omega)
      · rw [brO_neg (by omega)]
  exact main n 0 (by omega) (by omega)
/-- The law's second half. -/
theorem td_prd {n : Nat} {p q : Int} {l m : List (List Int)} (h : okB n l) (h' : okB n m) (hn : 300000 < n) :
    (bnd (triple_Product n p l q m) fun z8' => brO (z8'.2.2 != 0) (some true) (bnd (triple_Check n z8'.1 z8'.2.1) fun z9' => brO (z9' == 0) (some (z8'.1 == (IntKind.i64.wrap (p * q)))) (some false))) = some true := by
  rw [Product_eq h h' hn, bnd_sm]
  unfold prd
  by_cases hp : tfault p l = 0
  · by_cases hq : tfault q m = 0
    · rw [if_pos hp, if_pos hq]
      by_cases hpq : p * q > 33
      · rw [if_pos hpq]
        rfl
      · rw [if_neg hpq]
        obtain ⟨v, rfl, a1, a2, a3, a4, a5⟩ := tf_nat hp
        obtain ⟨w, rfl, b1, b2, b3, b4, b5⟩ := tf_nat hq
        have hvw : v * w ≤ 33 := by
          have := Int.natCast_mul v w
          omega
        have hf := prd_fault a4 a5 b4 b5 a1 b1 hvw
        rw [Int.natCast_mul] at hf
        have hl := (PL_len a2 b2 a3 b3).2
        dsimp only
        rw [Int.toNat_natCast, Int.toNat_natCast, show ((0 : Int) != 0) = false from rfl, brO_ff,
          Check_eq' (okB_tri (P := ((v * w : Nat) : Int)) (by rw [sortL_len]; omega) (by rw [sortL_len]; omega) (by omega) (fun b hb => PL_tri a4 b4 b (sortL_mem.1 hb))) (by omega), bnd_sm, hf, show ((0 : Int) == 0) = true from rfl, brO_tt]
        have hm := mul_le a2 b2
        rw [w64 (by omega)]
        simp
    · rw [if_pos hp, if_neg hq]
      dsimp only
      rw [show (tfault q m != 0) = true by simp [hq], brO_tt]
  · rw [if_neg hp]
    dsimp only
    rw [show (tfault p l != 0) = true by simp [hp], brO_tt]
end
theorem doubled_law {n : Nat} {p q : Int} {l m : List (List Int)} (h : okB n l) (h' : okB n m) (hn : 300000 < n) : law2_TripleDoubled n p l q m = some true := by
  have hpr := td_prd (p := p) (q := q) h h' hn
  unfold law2_TripleDoubled
  rw [fact_eq (by omega), bnd_sm, Bool.not_true, brO_ff, Double_eq h (by omega), bnd_sm]
  unfold dbl
  by_cases hp : tfault p l = 0
  · rw [if_pos hp]
    by_cases h33 : 2 * p + 1 > 33
    · rw [if_pos h33]
      exact hpr
    · rw [if_neg h33]
      obtain ⟨v, rfl, a1, a2, a3, a4, a5⟩ := tf_nat hp
      have hv : 2 * v + 1 ≤ 33 := by omega
      have hf := dbl_fault a4 a5 a1 hv
      have hle := DL_leneq a4 a5 a1
      have hb : (2 * v + 1) * (2 * v + 1 - 1) ≤ 33 * 32 := Nat.mul_le_mul hv (by omega)
      have ht : ∀ b, b ∈ sortL (DL v l) → tri ((2 * v + 1 : Nat) : Int) b := fun b hb => DL_tri a4 b (sortL_mem.1 hb)
      have hg : good (2 * v + 1) (sortL (DL v l)) = true := by
        rw [good_perm (show (sortL (DL v l)).Perm (DL v l) from List.mergeSort_perm _ _)]
        exact good_of_ex (DL_tri a4) hle (DL_ex a4 a5)
      have e1 : ((2 * v + 1 : Nat) : Int) = 2 * (v : Int) + 1 := by omega
      rw [e1] at hf
      have e2 : IntKind.i64.wrap (IntKind.i64.wrap (2 * (v : Int)) + 1) = 2 * (v : Int) + 1 := by rw [w64 (x := 2 * (v : Int)) (by omega), w64 (by omega)]
      dsimp only
      rw [Int.toNat_natCast, show ((0 : Int) == 0) = true from rfl, brO_tt, Check_eq' (okB_tri (by rw [sortL_len]; omega) (by rw [sortL_len]; omega) (by omega) ht) (by omega), bnd_sm, hf, show ((0 : Int) != 0) = false from rfl, brO_ff, e2,
        show ((2 * (v : Int) + 1) != 2 * v + 1) = false by simp, brO_ff, td_l10 a3 (fun b hb => tri_len (a4 b hb)) (fun d hd => tri_len (ht d hd)) (by rw [sortL_len]; omega) (by omega)]
      · exact hpr
      · intro b hbm
        refine tog_count (a4 b hbm) (by omega) hg (sortL_mem.2 (List.mem_append_right _ (List.mem_flatMap.2 ⟨b, hbm, ?_⟩)))
        rw [← sort_tri (a4 b hbm)]
        simp [rB, sort_tri (a4 b hbm)]
  · rw [if_neg hp]
    dsimp only
    rw [show (tfault p l == 0) = false by simp [hp], brO_ff]
    exact hpr
end Go.Gl
