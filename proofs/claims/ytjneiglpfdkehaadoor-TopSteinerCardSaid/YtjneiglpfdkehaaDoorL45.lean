/-
  L45: the program's search alone: what it gives is a system, or nothing.
  Conditions: none; plain laws.
-/
import Derived.Test.YtjneiglpfdkehaaDoorL41
namespace Go.Gl
open Go Go.Gx Go.Gm
section
variable {ρ : Type}
theorem scanR_some {ok : Nat → Bool} {o : Nat → Option (List (List Int))} {x : List (List Int)} : ∀ {l : List Nat}, scanR ok o l = some x → ∃ r, r ∈ l ∧ ok r = true ∧ o r = some x
  | [], h => by cases h
  | r :: l, h => by
    unfold scanR at h
    split at h
    · rename_i hok
      split at h
      · rename_i y hy
        cases h
        exact ⟨r, List.mem_cons_self .., hok, hy⟩
      · obtain ⟨k, h1, h2⟩ := scanR_some h
        exact ⟨k, List.mem_cons_of_mem _ h1, h2⟩
    · obtain ⟨k, h1, h2⟩ := scanR_some h
      exact ⟨k, List.mem_cons_of_mem _ h1, h2⟩
theorem Part.len12 {v : Nat} {l : List (List Int)} (h : Part v l) (hv : v ≤ 9) : l.length ≤ 12 := by
  have h1 := h.len
  have : v * (v - 1) ≤ 9 * 8 := Nat.mul_le_mul hv (by omega)
  omega
/-- What the search gives from some blocks on. -/
structure Goes (v f : Nat) (l : List (List Int)) (out : Option (List (List Int))) : Prop where
  ok : ∀ l', out = some l' → Part v l' ∧ 6 * l'.length = v * (v - 1)
  prog : ∀ n k p q, 1000 < n → f ≤ k → p < q → AllBef v l p q → GrowsTo (triple_system_grow_r n k) v l p q out
theorem goes {v : Nat} (hv : v ≤ 9) : ∀ (f : Nat) (l : List (List Int)), Part v l → 13 ≤ l.length + f → ∃ out, Goes v f l out
  | 0, l, h, hf => by
    have := h.len12 hv
    omega
  | f + 1, l, h, hf => by
    rcases first_ex v l with hc | ⟨p, q, hF⟩
    · have hfull := h.full.2 hc
      refine ⟨some l, ⟨fun l' hl' => by cases hl'; exact ⟨h, hfull⟩, fun n k p q hn hk hpq hb T hR => ?_⟩⟩
      obtain ⟨k, rfl⟩ : ∃ j, k = j + 1 := ⟨k - 1, by omega⟩
      exact Ans.of_some ⟨T, grow_full hR h hv (by omega) hpq hb hc⟩
    · have ex : ∀ r : Nat, ∃ o : Option (List (List Int)), q < r → r < v → okR l p q r = true → Goes v f (l ++ [[(p : Int), (q : Int), (r : Int)]]) o := by
        intro r
        by_cases hr : q < r ∧ r < v ∧ okR l p q r = true
        · obtain ⟨h1, h2, h3⟩ := hr
          have h3' := h3
          simp only [okR, Bool.and_eq_true, beq_iff_eq] at h3'
          obtain ⟨o, ho⟩ := goes hv f (l ++ [[(p : Int), (q : Int), (r : Int)]]) (h.snoc hF.pq h1 h2 hF.unc h3'.1 h3'.2) (by simp; omega)
          exact ⟨o, fun _ _ _ => ho⟩
        · exact ⟨none, fun h1 h2 h3 => (hr ⟨h1, h2, h3⟩).elim⟩
      obtain ⟨o, ho⟩ := Classical.axiomOfChoice ex
      refine ⟨scanR (okR l p q) o (List.range' (q + 1) (v - (q + 1))), ⟨fun l' hl' => ?_, fun n k p0 q0 hn hk hpq hb T hR => ?_⟩⟩
      · obtain ⟨r, h1, h2, h3⟩ := scanR_some hl'
        rw [List.mem_range'_1] at h1
        exact (ho r (by omega) (by omega) h2).ok l' h3
      · obtain ⟨k, rfl⟩ : ∃ j, k = j + 1 := ⟨k - 1, by omega⟩
        have e := grow_first (n := n) (R := triple_system_grow_r n k) hR h hv (by omega) hpq hb hF
        have t := try_eq (n := n) (R := triple_system_grow_r n k) hR h hv hF.pq hF.qv hF.unc (by omega) (fun r h1 h2 h3 => (ho r h1 h2 h3).prog n k p q hn (by omega) hF.pq hF.bef.snoc)
        exact t.mono (fun x ⟨T', hx⟩ => ⟨T', Eq.trans e hx⟩) (fun hx => Eq.trans e hx)
/-! ### What is wrong with the blocks -/
def ckG (v : Int) (b : List Int) : Int := if b.any (outB v) = true then 1 else if (b.length == 3 && inc b) = true then 0 else 2
def scanG (v : Int) : List (List Int) → Int
  | [] => 0
  | b :: l => if ckG v b = 0 then scanG v l else ckG v b
theorem ckG_val (v : Int) (b : List Int) : ckG v b = 0 ∨ ckG v b = 1 ∨ ckG v b = 2 := by
  unfold ckG
  split
  · exact .inr (.inl rfl)
  · split
    · exact .inl rfl
    · exact .inr (.inr rfl)
theorem scanG_val (v : Int) : ∀ l, scanG v l = 0 ∨ scanG v l = 1 ∨ scanG v l = 2
  | [] => .inl rfl
  | b :: l => by
    unfold scanG
    split
    · exact scanG_val v l
    · exact ckG_val v b
def nc2 : List (List Int) → List (List Int) → Bool
  | _, [] => true
  | s, b :: l => (s.all fun c => !decide ((tog b c : Int) > 1)) && nc2 (s ++ [b]) l
def gfault (v : Int) (l : List (List Int)) : Int :=
  if v < 1 then 1 else if v > 9 then 1 else if (l.length : Int) > 200 then 3 else if scanG v l = 0 then (if nc2 [] l = true then 0 else 6) else scanG v l
theorem ckG_tri {v : Int} {b : List Int} (h : ckG v b = 0) : tri v b := by
  unfold ckG at h
  split at h
  · cases h
  · rename_i h1
    split at h
    · rename_i h2
      simp only [Bool.and_eq_true, beq_iff_eq] at h2
      obtain ⟨h3, h4⟩ := h2
      match b, h3, h4, h1 with
      | [x, y, z], _, h4, h1 =>
        obtain ⟨g1, g2⟩ := inc_three h4
        simp [outB] at h1
        exact ⟨x, y, z, rfl, by omega, by omega, by omega, by omega⟩
    · cases h
theorem scanG_tri {v : Int} : ∀ {l : List (List Int)}, scanG v l = 0 → ∀ b, b ∈ l → tri v b
  | [], _, b, hb => by cases hb
  | c :: l, h, b, hb => by
    unfold scanG at h
    split at h
    · rename_i h1
      rcases List.mem_cons.1 hb with rfl | hb
      · exact ckG_tri h1
      · exact scanG_tri h b hb
    · rename_i h1
      exact (h1 h).elim
theorem nc2_iff {v : Int} : ∀ (l s : List (List Int)), (∀ b, b ∈ s ++ l → tri v b) → (nc2 s l = true ↔ NC s l)
  | [], s, _ => by simp [nc2, NC]
  | b :: l, s, h => by
    have e : s ++ b :: l = (s ++ [b]) ++ l := by simp
    unfold nc2 NC
    rw [Bool.and_eq_true, nc2_iff l (s ++ [b]) (fun c hc => h c (by rw [e]; exact hc)), List.all_eq_true]
    refine and_congr ⟨fun hh c hc hsh => ?_, fun hh c hc => ?_⟩ Iff.rfl
    · have := hh c hc
      have h1 := (tog_share (h b (by simp)) (h c (by simp [hc]))).2 hsh
      simp only [Bool.not_eq_true', decide_eq_false_iff_not] at this
      omega
    · simp only [Bool.not_eq_true', decide_eq_false_iff_not]
      intro hgt
      exact hh c hc ((tog_share (h b (by simp)) (h c (by simp [hc]))).1 (by omega))
/-- A block's shape, asked step by step. -/
theorem shape_of {b : List Int} (X : Int → Int → Int → Option ρ) (k1 : Option ρ) : (brO ((b.length : Int) != 3) (k1) (
        chk (0 ≤ (0 : Int)) <| chk ((0 : Int) < (b.length : Int)) <| bnd (b[0]?) fun b3' =>
        chk (0 ≤ (1 : Int)) <| chk ((1 : Int) < (b.length : Int)) <| bnd (b[1]?) fun b4' =>
        brO (decide (b3' ≥ b4')) (k1) (
          chk (0 ≤ (1 : Int)) <| chk ((1 : Int) < (b.length : Int)) <| bnd (b[1]?) fun b5' =>
          chk (0 ≤ (2 : Int)) <| chk ((2 : Int) < (b.length : Int)) <| bnd (b[2]?) fun b6' =>
          brO (decide (b5' ≥ b6')) (k1) (X b3' b4' b6')))) = if (b.length == 3 && inc b) = true then X (b.getD 0 0) (b.getD 1 0) (b.getD 2 0) else k1 := by
  by_cases h : b.length = 3
  · match b, h with
    | [x, y, z], _ =>
      simp only [List.length_cons, List.length_nil, inc, List.getD_cons_zero, List.getD_cons_succ]
      by_cases h1 : x < y
      · have g1 : ¬ y ≤ x := by omega
        by_cases h2 : y < z
        · have g2 : ¬ z ≤ y := by omega
          simp [brO, chk, bnd, h1, h2, g1, g2]
        · have g2 : z ≤ y := by omega
          simp [brO, chk, bnd, h1, h2, g1, g2]
      · have g1 : y ≤ x := by omega
        simp [brO, chk, bnd, h1, g1]
  · have e1 : ((b.length : Int) != 3) = true := by simp; omega
    have e2 : (b.length == 3) = false := by simpa using h
    rw [e1, brO_tt, e2]
    rfl
theorem gIndexFunc_eq {n : Nat} {b : List Int} {v : Int} (hl : b.length ≤ 9223372036854775807) (hn : b.length < n) : slices_IndexFunc_intint__triple_Grow_1 n b v = some (findI (outB v) 0 b) := by
  unfold slices_IndexFunc_intint__triple_Grow_1 slices_IndexFunc_intint__triple_Grow_1_l2
  refine (iter_idx b (fun i (_ : Unit) => (i : Int)) (fun i a _ nx => if outB v a = true then some (i : Int) else nx ()) (fun _ => some (-1)) ?_ ?_ n 0 () (Nat.zero_le _) (by omega)).trans ?_
  · intro i s nx hi
    unfold slices_IndexFunc_intint__triple_Grow_1_s2
    simp (disch := omega) only [brO_pos, chk_pos, bnd_get, Int.toNat_natCast, w64s]
    have e : triple_Grow_1 n b[i] v = some (outB v b[i]) := by
      unfold triple_Grow_1 outB
      by_cases h : b[i] < 0
      · simp [brO, h]
      · simp [brO, h]
    rw [e, bnd_sm, brO_if]
  · intro s nx
    unfold slices_IndexFunc_intint__triple_Grow_1_s2
    rw [brO_neg (by omega)]
  · rw [List.drop_zero]
    exact findI_fold _ 0 b
theorem gContainsFunc_eq {n : Nat} {b : List Int} {v : Int} (hl : b.length ≤ 9223372036854775807) (hn : b.length < n) : slices_ContainsFunc_intint__triple_Grow_1 n b v = some (b.any (outB v)) := by
  unfold slices_ContainsFunc_intint__triple_Grow_1
  rw [gIndexFunc_eq hl hn, bnd_sm, findI_any]
theorem Grow_l7 {n : Nat} {v : Int} {l : List (List Int)} (h : okB n l) (hlen : l.length ≤ 200) {t41 : List (List Int)} {t40 : Int} (k0 k1 : List (List Int) → Option ρ) (k2 : List (List Int) → Int → Option ρ) :
    triple_Grow_l7 n v t40 t41 l (l.length : Int) [] v 0 k0 k1 k2 = if scanG v l = 0 then k2 l v else if scanG v l = 1 then k0 [] else k1 [] := by
  obtain ⟨hl, hn, hb⟩ := h
  unfold triple_Grow_l7
  refine (iter_list l (fun i (s : List (List Int) × Int) => (s.1, s.2, (i : Int))) (fun b s nx => if ckG v b = 0 then (bnd (triple_lister_add n s.1 s.2 (b.getD 0 0) (b.getD 1 0) (b.getD 2 0)) fun z => nx (z.1, z.2)) else if ckG v b = 1 then k0 [] else k1 []) (fun s => k2 s.1 s.2) ?_ ?_ n 0 ([], v) (Nat.zero_le _) (by omega)).trans ?_
  · intro i s nx hi
    obtain ⟨g1, g2⟩ := hb _ (List.getElem_mem hi)
    unfold triple_Grow_s7
    simp (disch := omega) only [brO_pos, chk_pos, bnd_get, Int.toNat_natCast, w64s]
    rw [gContainsFunc_eq g1 g2, bnd_sm, brO_if]
    unfold ckG
    by_cases ha : l[i].any (outB v) = true
    · rw [if_pos ha, if_pos ha]; rfl
    · rw [if_neg ha, if_neg ha]
      refine Eq.trans ?_ ((shape_of (b := l[i]) (fun x y z => bnd (triple_lister_add n s.1 s.2 x y z) fun z => nx (z.1, z.2, ((i + 1 : Nat) : Int))) (k1 [])).trans ?_)
      · by_cases hs : l[i].length = 3
        · have q0 : l[i][0]? = some (l[i].getD 0 0) := by rw [List.getElem?_eq_getElem (by omega)]; simp [List.getD, hs]
          have q1 : l[i][1]? = some (l[i].getD 1 0) := by rw [List.getElem?_eq_getElem (by omega)]; simp [List.getD, hs]
          have q2 : l[i][2]? = some (l[i].getD 2 0) := by rw [List.getElem?_eq_getElem (by omega)]; simp [List.getD, hs]
          simp (disch := omega) only [q0, q1, q2, bnd_sm, chk_pos]
        · have e1 : ((l[i].length : Int) != 3) = true := by simp; omega
          rw [e1, brO_tt, brO_tt]
      · by_cases hs : (l[i].length == 3 && inc l[i]) = true
        · rw [if_pos hs, if_pos hs]; rfl
        · rw [if_neg hs, if_neg hs]; rfl
  · intro s nx
    unfold triple_Grow_s7
    rw [brO_neg (show ¬ ((l.length : Int) < (l.length : Int)) by omega)]
  · rw [List.drop_zero]
    have key : ∀ (r acc : List (List Int)), acc.length + r.length ≤ 200 → foldO (fun b (s : List (List Int) × Int) nx => if ckG v b = 0 then (bnd (triple_lister_add n s.1 s.2 (b.getD 0 0) (b.getD 1 0) (b.getD 2 0)) fun z => nx (z.1, z.2)) else if ckG v b = 1 then k0 [] else k1 []) (fun s => k2 s.1 s.2) r (acc, v) = if scanG v r = 0 then k2 (acc ++ r) v else if scanG v r = 1 then k0 [] else k1 [] := by
      intro r
      induction r with
      | nil => intro acc _; simp [foldO_nil, scanG]
      | cons b r ih =>
        intro acc hacc
        rw [foldO_cons, show scanG v (b :: r) = if ckG v b = 0 then scanG v r else ckG v b from rfl]
        simp at hacc
        by_cases hc : ckG v b = 0
        · rw [if_pos hc, add_eq (show acc.length + 1 < 2 ^ 40 by omega), bnd_sm]
          simp only [if_pos hc]
          have hb3 : sortI [b.getD 0 0, b.getD 1 0, b.getD 2 0] = b := by
            obtain ⟨x, y, z, rfl, h0, h1, h2, h3⟩ := ckG_tri hc
            exact (sortI_unique (List.Perm.refl _) (by simp; omega)).symm
          rw [hb3, ih (acc ++ [b]) (by simp; omega)]
          simp
        · rw [if_neg hc, if_neg hc, if_neg hc]
    exact (key l [] (by simpa using hlen)).trans (by simp)
end
theorem gsort_tri {P : Int} {b : List Int} (hb : tri P b) : sortI b = b := by
  obtain ⟨u, v, w, rfl, h1, h2, h3, h4⟩ := hb
  exact (sortI_unique (List.Perm.refl _) (by simp; omega)).symm
theorem gtri_len {p : Int} {b : List Int} (h : tri p b) : b.length = 3 := by obtain ⟨x, y, z, rfl, _⟩ := h; rfl
theorem gfault_zero {v : Int} {l : List (List Int)} (h : gfault v l = 0) : ∃ q : Nat, v = q ∧ 1 ≤ q ∧ q ≤ 9 ∧ l.length ≤ 200 ∧ scanG v l = 0 ∧ Part q l := by
  unfold gfault at h
  split at h
  · cases h
  split at h
  · cases h
  split at h
  · cases h
  split at h
  · rename_i h1 h2 h3 h4
    split at h
    · rename_i h5
      have ht := scanG_tri h4
      refine ⟨v.toNat, by omega, by omega, by omega, by omega, h4, ?_⟩
      have e : ((v.toNat : Nat) : Int) = v := by omega
      exact (part_nc (fun b hb => by rw [e]; exact ht b hb)).1 ((nc2_iff l [] (by simpa using ht)).1 h5)
    · cases h
  · rename_i h4
    exact (h4 h).elim

/-- What a look at some blocks comes to: nothing, or a system that has them. -/
theorem GrowP_eq {n : Nat} {v : Int} {l : List (List Int)} (h : okB n l) (hn : 2000 < n) :
    (gfault v l ≠ 0 → triple_Grow n v l = some (0, [], gfault v l)) ∧
    (gfault v l = 0 → ∃ (q : Nat) (out : Option (List (List Int))), v = q ∧ 1 ≤ q ∧ q ≤ 9 ∧ (∀ l', out = some l' → Part q l' ∧ 6 * l'.length = q * (q - 1)) ∧
      Ans out (fun l' => triple_Grow n v l = some (v, sortL l', 0)) (triple_Grow n v l = some (0, [], 4))) := by
  constructor
  · intro hf
    unfold triple_Grow gfault
    unfold gfault at hf
    by_cases h1 : v < 1
    · rw [brO_pos h1, if_pos h1]
    rw [brO_neg h1, if_neg h1]
    rw [if_neg h1] at hf
    by_cases h2 : v > 9
    · rw [brO_pos h2, if_pos h2]
    rw [brO_neg h2, if_neg h2]
    rw [if_neg h2] at hf
    by_cases h3 : (l.length : Int) > 200
    · rw [brO_pos h3, if_pos h3]
    rw [brO_neg h3, if_neg h3]
    rw [if_neg h3] at hf
    rw [Grow_l7 h (by omega)]
    by_cases h4 : scanG v l = 0
    · rw [if_pos h4, if_pos h4]
      rw [if_pos h4] at hf
      by_cases h5 : nc2 [] l = true
      · rw [if_pos h5] at hf; exact (hf rfl).elim
      rw [if_neg h5]
      have ht := scanG_tri h4
      have ht40 : ∀ b, b ∈ l → tri 40 b := fun b hb => tri_mono (ht b hb) (by omega)
      have hT := (thirdT_ok l [] none0 rep_none (by simpa using ht40)).2 (fun hnc => h5 ((nc2_iff l [] (by simpa using ht)).2 hnc))
      have z16 : zeros.length = 1600 := List.length_replicate ..
      have z17 : (List.replicate 1600 (0 : Int)).length = 1600 := List.length_replicate ..
      rw [third_eq h.1 h.2.1 (by omega) ht40, hT, bnd_sm]
      rw [chk_pos rfl, chk_pos z16, chk_pos z17]
      rfl
    · rw [if_neg h4, if_neg h4]
      rcases scanG_val v l with g | g | g
      · exact (h4 g).elim
      · rw [g]; rfl
      · rw [g]; rfl
  · intro hf
    obtain ⟨q, rfl, hq1, hq9, hlen, hs, hp⟩ := gfault_zero hf
    obtain ⟨out, hout⟩ := goes hq9 13 l hp (by omega)
    refine ⟨q, out, rfl, hq1, hq9, hout.ok, ?_⟩
    have ht := hp.tri
    have ht40 : ∀ b, b ∈ l → tri 40 b := fun b hb => tri_mono (ht b hb) (by omega)
    obtain ⟨T, hT, hR⟩ := (thirdT_ok l [] none0 rep_none (by simpa using ht40)).1 ((part_nc ht).2 hp)
    have z17 : (List.replicate 1600 (0 : Int)).length = 1600 := List.length_replicate ..
    have e : triple_Grow n q l = (bnd (triple_system_grow n l q T 0 1) fun z16' => brO (!z16'.1) (some (0, [], 4)) (bnd (triple_system_design n z16'.2.1 z16'.2.2.1) fun z17' => some (z17'.1, z17'.2.1, 0))) := by
      unfold triple_Grow
      rw [brO_neg (by omega), brO_neg (by omega), brO_neg (by omega), Grow_l7 h hlen, if_pos hs]
      simp only
      rw [third_eq h.1 h.2.1 (by omega) ht40, hT, bnd_sm, chk_pos trivial, chk_pos hR.len, chk_pos z17]
      rfl
    rw [e]
    have hb : AllBef q l 0 1 := fun p' q' h1 h2 h3 => by omega
    refine (hout.prog n n 0 1 (by omega) (by omega) (by omega) hb T (by simpa using hR)).imp' ?_ ?_
    · rintro l' hl' ⟨T', h1⟩
      have h2 : triple_system_grow n l q T 0 1 = some (true, l', (q : Int), T') := h1
      have h3 := (hout.ok l' hl').1
      have h4 := h3.len12 hq9
      rw [h2, bnd_sm]
      simp only [Bool.not_true, brO_ff]
      rw [design_eq (by omega) (fun x hx => by rw [gtri_len (h3.tri x hx)]; omega), bnd_sm]
    · intro h1
      have h2 : triple_system_grow n l q T 0 1 = some (false, l, (q : Int), T) := h1
      rw [h2]
      rfl

end Go.Gl
