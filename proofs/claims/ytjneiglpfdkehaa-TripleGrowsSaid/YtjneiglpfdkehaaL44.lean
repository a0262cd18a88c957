/-
  L44: the first system that has some blocks: the program's answer is the document's.
  Conditions: none; plain laws.
-/
import Derived.Test.YtjneiglpfdkehaaL43
namespace Go.Gl
open Go Go.Gx Go.Gm
theorem gsort_tri {P : Int} {b : List Int} (hb : tri P b) : sortI b = b := by
  obtain ⟨u, v, w, rfl, h1, h2, h3, h4⟩ := hb
  exact (sortI_unique (List.Perm.refl _) (by simp; omega)).symm
theorem gtri_len {p : Int} {b : List Int} (h : tri p b) : b.length = 3 := by obtain ⟨x, y, z, rfl, _⟩ := h; rfl
theorem gfault_zero {v : Int} {l : List (List Int)} (h : gfault v l = 0) : ∃ q : Nat, v = q ∧ 1 ≤ q ∧ q ≤ 9 ∧ l.length ≤ 200 ∧ scanG v l = 0 ∧ Part q l := by
  unfold gfault at h
  split at h
  · cases h
  split at h
  · cases h
  split at h
  · cases h
  split at h
  · rename_i h1 h2 h3 h4
    split at h
    · rename_i h5
      have ht := scanG_tri h4
      refine ⟨v.toNat, by omega, by omega, by omega, by omega, h4, ?_⟩
      have e : ((v.toNat : Nat) : Int) = v := by omega
      exact (part_nc (fun b hb => by rw [e]; exact ht b hb)).1 ((nc2_iff l [] (by simpa using ht)).1 h5)
    · cases h
  · rename_i h4
    exact (h4 h).elim
theorem Part.good_len {v : Nat} {l : List (List Int)} (h : Part v l) (hv : v ≤ 9) : l.length ≤ 12 := (Bnd.mk (n := 1001) h hv (by omega)).len
/-- What a look at some blocks comes to: nothing, or a system that has them. -/
theorem Grow_eq {n : Nat} {v : Int} {l : List (List Int)} (h : okB n l) (hn : 2000 < n) :
    (gfault v l ≠ 0 → triple_Grow n v l = some (0, [], gfault v l)) ∧
    (gfault v l = 0 → ∃ (q : Nat) (out : Option (List (List Int))), v = q ∧ 1 ≤ q ∧ q ≤ 9 ∧ (∀ l', out = some l' → Part q l' ∧ 6 * l'.length = q * (q - 1)) ∧
      Ans out (fun l' => triple_Grow n v l = some (v, sortL l', 0)) (triple_Grow n v l = some (0, [], 4)) ∧ Ans out (fun l' => ref2_GrowOf n v l = some (v, sortL l', 0)) (ref2_GrowOf n v l = some (0, [], 4))) := by
  constructor
  · intro hf
    unfold triple_Grow gfault
    unfold gfault at hf
    by_cases h1 : v < 1
    · rw [brO_pos h1, if_pos h1]
    rw [brO_neg h1, if_neg h1]
    rw [if_neg h1] at hf
    by_cases h2 : v > 9
    · rw [brO_pos h2, if_pos h2]
    rw [brO_neg h2, if_neg h2]
    rw [if_neg h2] at hf
    by_cases h3 : (l.length : Int) > 200
    · rw [brO_pos h3, if_pos h3]
    rw [brO_neg h3, if_neg h3]
    rw [if_neg h3] at hf
    rw [Grow_l7 h (by omega)]
    by_cases h4 : scanG v l = 0
    · rw [if_pos h4, if_pos h4]
      rw [if_pos h4] at hf
      by_cases h5 : nc2 [] l = true
      · rw [if_pos h5] at hf; exact (hf rfl).elim
      rw [if_neg h5]
      have ht := scanG_tri h4
      have ht40 : ∀ b, b ∈ l → tri 40 b := fun b hb => tri_mono (ht b hb) (by omega)
      have hT := (thirdT_ok l [] none0 rep_none (by simpa using ht40)).2 (fun hnc => h5 ((nc2_iff l [] (by simpa using ht)).2 hnc))
      have z16 : zeros.length = 1600 := List.length_replicate ..
      have z17 : (List.replicate 1600 (0 : Int)).length = 1600 := List.length_replicate ..
      rw [third_eq h.1 h.2.1 (by omega) ht40, hT, bnd_sm]
      rw [chk_pos rfl, chk_pos z16, chk_pos z17]
      rfl
    · rw [if_neg h4, if_neg h4]
      rcases scanG_val v l with g | g | g
      · exact (h4 g).elim
      · rw [g]; rfl
      · rw [g]; rfl
  · intro hf
    obtain ⟨q, rfl, hq1, hq9, hlen, hs, hp⟩ := gfault_zero hf
    obtain ⟨out, hout⟩ := joint hq9 13 l hp (by omega)
    refine ⟨q, out, rfl, hq1, hq9, hout.ok, ?_, ?_⟩
    · have ht := hp.tri
      have ht40 : ∀ b, b ∈ l → tri 40 b := fun b hb => tri_mono (ht b hb) (by omega)
      obtain ⟨T, hT, hR⟩ := (thirdT_ok l [] none0 rep_none (by simpa using ht40)).1 ((part_nc ht).2 hp)
      have z17 : (List.replicate 1600 (0 : Int)).length = 1600 := List.length_replicate ..
      have e : triple_Grow n q l = (bnd (triple_system_grow n l q T 0 1) fun z16' => brO (!z16'.1) (some (0, [], 4)) (bnd (triple_system_design n z16'.2.1 z16'.2.2.1) fun z17' => some (z17'.1, z17'.2.1, 0))) := by
        unfold triple_Grow
        rw [brO_neg (by omega), brO_neg (by omega), brO_neg (by omega), Grow_l7 h hlen, if_pos hs]
        simp only
        rw [third_eq h.1 h.2.1 (by omega) ht40, hT, bnd_sm, chk_pos trivial, chk_pos hR.len, chk_pos z17]
        rfl
      rw [e]
      have hb : AllBef q l 0 1 := fun p' q' h1 h2 h3 => by omega
      refine (hout.prog n n 0 1 (by omega) (by omega) (by omega) hb T (by simpa using hR)).imp' ?_ ?_
      · rintro l' hl' ⟨T', h1⟩
        have h2 : triple_system_grow n l q T 0 1 = some (true, l', (q : Int), T') := h1
        have h3 := (hout.ok l' hl').1
        have h4 := h3.good_len hq9
        rw [h2, bnd_sm]
        simp only [Bool.not_true, brO_ff]
        rw [design_eq (by omega) (fun x hx => by rw [gtri_len (h3.tri x hx)]; omega), bnd_sm]
      · intro h1
        have h2 : triple_system_grow n l q T 0 1 = some (false, l, (q : Int), T) := h1
        rw [h2]
        rfl
    · have hb : AllBef q l 0 1 := fun p' q' h1 h2 h3 => by omega
      unfold ref2_GrowOf
      refine (hout.doc n n 0 1 2 (by omega) (by omega) (by omega) (by omega) hb (fun _ => rfl)).imp' ?_ ?_
      · intro l' hl' h1
        have h2 : ref2_grown n q l 0 1 2 = some (l', true) := h1
        have h3 := (hout.ok l' hl').1
        have h4 := h3.good_len hq9
        have e : l'.map sortI = l' := by
          conv => rhs; rw [← List.map_id l']
          exact List.map_congr_left fun b hb => gsort_tri (h3.tri b hb)
        rw [h2, bnd_sm]
        simp only [Bool.not_true, brO_ff]
        rw [InOrder_eq (by omega) (by omega) (fun x hx => by rw [gtri_len (h3.tri x hx)]; omega), bnd_sm, e]
      · intro h1
        have h2 : ref2_grown n q l 0 1 2 = some ([], false) := h1
        rw [h2]
        rfl
theorem gDesigns_self {n : Nat} {p : Int} {a : List (List Int)} (ha : a.length < n ∧ a.length < 2 ^ 40) (hr : ∀ x, x ∈ a → x.length < n ∧ x.length < 2 ^ 40) : ref2_Designs n p a p a = some true := by
  rw [Designs_eq ha hr]
  simp
theorem grows_law {n : Nat} {v : Int} {l : List (List Int)} (h : okB n l) (hn : 2000 < n) : law2_TripleGrows n v l = some true := by
  have hnil : ref2_Designs n 0 [] 0 [] = some true := gDesigns_self ⟨by simp; omega, by simp⟩ (by simp)
  obtain ⟨g1, g2⟩ := Grow_eq (v := v) h hn
  unfold law2_TripleGrows
  rw [GrowFault_eq h, bnd_sm]
  by_cases hf : gfault v l = 0
  · obtain ⟨q, out, rfl, hq1, hq9, hok, hprog, hdoc⟩ := g2 hf
    have e0 : (gfault (q : Int) l != 0) = false := by rw [hf]; rfl
    cases hout : out with
    | none =>
      rw [hprog.2 hout, bnd_sm, e0, brO_ff, hdoc.2 hout, bnd_sm]
      simp only
      rw [hnil]
      rfl
    | some l' =>
      have h3 := (hok l' hout).1
      have h4 := h3.good_len hq9
      rw [hprog.1 l' hout, bnd_sm, e0, brO_ff, hdoc.1 l' hout, bnd_sm]
      simp only
      rw [gDesigns_self (by rw [show (sortL l').length = l'.length from List.length_mergeSort _]; omega) (fun x hx => by rw [gtri_len (h3.tri x ((List.mergeSort_perm _ _).mem_iff.1 hx))]; omega)]
      rfl
  · have e1 : (gfault v l != 0) = true := by simpa using hf
    rw [g1 hf, bnd_sm, e1, brO_tt]
    simp only
    rw [hnil, bnd_sm]
    simp [brO]
end Go.Gl
