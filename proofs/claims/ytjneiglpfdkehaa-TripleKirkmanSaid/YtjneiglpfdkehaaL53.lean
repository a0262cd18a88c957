/-
  L53: systems of triples are just where counting lets them be.
  Conditions: none; plain laws.
-/
import Derived.Test.YtjneiglpfdkehaaL51
import Derived.Test.YtjneiglpfdkehaaL52
namespace Go.Gl
open Go Go.Gx Go.Gm
/-! ### Sorted blocks -/
theorem sortI_len (l : List Int) : (sortI l).length = l.length := List.length_mergeSort _
theorem tri_len {p : Int} {b : List Int} (h : tri p b) : b.length = 3 := by obtain ⟨x, y, z, rfl, _⟩ := h; rfl
theorem sortL_len (l : List (List Int)) : (sortL l).length = l.length := List.length_mergeSort _
theorem sortL_mem {l : List (List Int)} {x : List Int} : x ∈ sortL l ↔ x ∈ l := (List.mergeSort_perm _ _).mem_iff
theorem sortI_mem {l : List Int} {x : Int} : x ∈ sortI l ↔ x ∈ l := (List.mergeSort_perm _ _).mem_iff
theorem tri_sort {P : Int} {a b c : Int} (ha : 0 ≤ a ∧ a < P) (hb : 0 ≤ b ∧ b < P) (hc : 0 ≤ c ∧ c < P) (h1 : a ≠ b) (h2 : b ≠ c) (h3 : a ≠ c) : tri P (sortI [a, b, c]) := by
  have hp : (sortI [a, b, c]).Perm [a, b, c] := List.mergeSort_perm _ _
  have hs : (sortI [a, b, c]).Pairwise (fun x y => decide (x ≤ y) = true) := List.pairwise_mergeSort (le := fun x y : Int => decide (x ≤ y)) (by intro a b c; simp; omega) (by intro a b; simp; omega) _
  have hn : (sortI [a, b, c]).Nodup := hp.nodup_iff.2 (by simp; omega)
  have hl : (sortI [a, b, c]).length = 3 := by rw [sortI_len]; rfl
  have hm : ∀ x, x ∈ sortI [a, b, c] → 0 ≤ x ∧ x < P := by
    intro x hx
    have := hp.mem_iff.1 hx
    simp only [List.mem_cons, List.not_mem_nil, or_false] at this
    rcases this with rfl | rfl | rfl <;> assumption
  generalize sortI [a, b, c] = l at *
  match l, hl with
  | [x, y, z], _ =>
    simp only [List.pairwise_cons, List.mem_cons, List.not_mem_nil, or_false, forall_eq_or_imp, forall_eq, decide_eq_true_eq] at hs
    simp only [List.nodup_cons, List.mem_cons, List.not_mem_nil, or_false, not_or] at hn
    have h4 := hm x (by simp)
    have h5 := hm z (by simp)
    exact ⟨x, y, z, rfl, by omega, by omega, by omega, by omega⟩
theorem scan_of_tri {P : Int} : ∀ {L : List (List Int)}, (∀ b, b ∈ L → tri P b) → scan P L = 0
  | [], _ => rfl
  | b :: L, h => by
    obtain ⟨x, y, z, rfl, h1, h2, h3, h4⟩ := h b (List.mem_cons_self ..)
    have h0 : ck P [x, y, z] = 0 := by
      unfold ck
      have : ([x, y, z].any (outB P)) = false := by
        simp [outB]
        omega
      rw [this]
      simp [inc, h2, h3]
    unfold scan
    rw [if_pos h0]
    exact scan_of_tri fun c hc => h c (List.mem_cons_of_mem _ hc)
theorem good_of_ex {P : Nat} {L : List (List Int)} (ht : ∀ b, b ∈ L → tri P b) (hlen : 6 * L.length = P * (P - 1)) (hex : ∀ x, x < P → ∀ y, y < x → ∃ b, b ∈ L ∧ (x : Int) ∈ b ∧ (y : Int) ∈ b) : good P L = true := by
  rw [good_iff]
  have hge : ∀ x, x < P → ∀ y, y < x → 1 ≤ cnt x y L := by
    intro x hx y hy
    obtain ⟨b, hb, h1, h2⟩ := hex x hx y hy
    rcases Nat.eq_zero_or_pos (cnt x y L) with h | h
    · exact absurd ⟨h1, h2⟩ (cnt_zero.1 h b hb)
    · exact h
  have hs := pairs_sum ht
  have hg := S_gauss P
  have e1 : S P (fun x => S x (fun _ => 1)) = S P (fun x => x) := S_congr P fun x _ => by rw [S_const, Nat.mul_one]
  have e2 : S P (fun x => S x (fun _ => 1)) = S P (fun x => S x (fun y => cnt x y L)) := by rw [e1, hs]; omega
  have h1 := S_eq_of_le (f := fun x => S x (fun _ => 1)) (g := fun x => S x (fun y => cnt x y L)) P (fun x hx => S_le x fun y hy => hge x hx y hy) e2
  intro x hx y hy
  have h2 := S_eq_of_le (f := fun _ => 1) (g := fun y : Nat => cnt x y L) x (fun y hy => hge x hx y hy) (h1 x hx)
  exact (h2 y hy).symm
theorem dck_of_tri {P : Nat} {L : List (List Int)} (h1 : 1 ≤ P) (h2 : P ≤ 40) (h3 : L.length ≤ 200) (ht : ∀ b, b ∈ L → tri P b) : dck P L = 0 := by
  unfold dck
  rw [if_neg (by omega), if_neg (by omega), if_neg (by omega)]
  exact scan_of_tri ht
theorem tfault_of {P : Nat} {L : List (List Int)} (h1 : 1 ≤ P) (h2 : P ≤ 40) (h3 : L.length ≤ 200) (ht : ∀ b, b ∈ L → tri P b) (hg : good P L = true) : tfault P L = 0 := by
  have hd := dck_of_tri h1 h2 h3 ht
  have h3 : len3 L = true := List.all_eq_true.2 fun b hb => by rw [tri_len (ht b hb)]; rfl
  unfold tfault
  rw [if_pos hd, if_pos h3, Int.toNat_natCast, if_pos hg]
theorem cnt_perm {x y : Int} {a b : List (List Int)} (h : a.Perm b) : cnt x y a = cnt x y b := h.countP_eq _
theorem good_perm {P : Nat} {a b : List (List Int)} (h : a.Perm b) : good P a = good P b := by
  unfold good
  congr 1
  funext x
  congr 1
  funext y
  rw [cnt_perm h]
theorem okB_tri {n : Nat} {P : Int} {L : List (List Int)} (hl : L.length < n) (hl2 : L.length ≤ 1000000) (hn : 3 < n) (ht : ∀ b, b ∈ L → tri P b) : okB n L :=
  ⟨by omega, hl, fun b hb => by have := tri_len (ht b hb); omega⟩
theorem Check_eq' {n : Nat} {p : Int} {l : List (List Int)} (h : okB n l) (hn : 40 < n) : triple_Check n p l = some (tfault p l) := by
  obtain ⟨T, h1, h2, _⟩ := open_eq h hn (p := p)
  unfold triple_Check
  rw [h1, bnd_sm, chk_pos rfl, chk_pos h2, chk_pos List.length_replicate]
theorem tf_nat {p : Int} {l : List (List Int)} (h : tfault p l = 0) : ∃ q : Nat, p = q ∧ 1 ≤ q ∧ q ≤ 40 ∧ l.length ≤ 200 ∧ (∀ b, b ∈ l → tri q b) ∧ good q l = true := by
  have h' := h
  unfold tfault at h'
  split at h'
  · rename_i hd
    split at h'
    · rename_i h3
      split at h'
      · rename_i hg
        obtain ⟨h4, h5, h6⟩ := dck_zero hd
        refine ⟨p.toNat, by omega, by omega, by omega, h6, ?_, hg⟩
        have := tri_of hd h3
        rwa [show ((p.toNat : Nat) : Int) = p by omega]
      · simp at h'
    · simp at h'
  · rename_i hd; exact absurd h' hd
/-! ### Counting -/
theorem deg_block {v : Nat} {b : List Int} (hv : 1 ≤ v) (hb : tri v b) : S v (fun y => if y = 0 then 0 else if two 0 y b = true then 1 else 0) = if (0 : Int) ∈ b then 2 else 0 := by
  obtain ⟨x, y, z, rfl, h0, h1, h2, h3⟩ := hb
  by_cases hx : (0 : Int) ∈ [x, y, z]
  · rw [if_pos hx]
    have hx0 : x = 0 := by
      simp only [List.mem_cons, List.not_mem_nil, or_false] at hx
      omega
    subst hx0
    have e : S v (fun i => if i = 0 then 0 else if two 0 i [0, y, z] = true then 1 else 0) = S v (fun i => (if i = y.toNat then 1 else 0) + (if i = z.toNat then 1 else 0)) := by
      refine S_congr v fun i hi => ?_
      by_cases hi0 : i = 0
      · rw [if_pos hi0, if_neg (by omega), if_neg (by omega)]
      · rw [if_neg hi0]
        by_cases hy : i = y.toNat
        · rw [if_pos (two_iff.2 ⟨by simp, by simp; omega⟩), if_pos hy, if_neg (by omega)]
        · by_cases hz : i = z.toNat
          · rw [if_pos (two_iff.2 ⟨by simp, by simp; omega⟩), if_neg hy, if_pos hz]
          · rw [if_neg (fun h => ?_), if_neg hy, if_neg hz]
            have := (two_iff.1 h).2
            simp only [List.mem_cons, List.not_mem_nil, or_false] at this
            omega
    rw [e, S_add, S_one 1 (by omega), S_one 1 (by omega)]
  · rw [if_neg hx]
    refine S_zero' fun i _ => ?_
    split
    · rfl
    · rw [if_neg fun h => hx (two_iff.1 h).1]
theorem deg_all {v : Nat} (hv : 1 ≤ v) : ∀ {l : List (List Int)}, (∀ b, b ∈ l → tri v b) → S v (fun y => if y = 0 then 0 else cnt 0 y l) = 2 * l.countP fun b => decide ((0 : Int) ∈ b)
  | [], _ => S_zero' fun i _ => by split <;> simp [cnt]
  | b :: l, h => by
    have e : S v (fun y => if y = 0 then 0 else cnt 0 y (b :: l)) = S v (fun y => (if y = 0 then 0 else cnt 0 y l) + (if y = 0 then 0 else if two 0 y b = true then 1 else 0)) := by
      refine S_congr v fun i _ => ?_
      by_cases hi : i = 0
      · rw [if_pos hi, if_pos hi, if_pos hi]
      · rw [if_neg hi, if_neg hi, if_neg hi, cnt_cons]
    rw [e, S_add, deg_all hv (fun c hc => h c (List.mem_cons_of_mem _ hc)), deg_block hv (h b (List.mem_cons_self ..)), List.countP_cons]
    by_cases h0 : (0 : Int) ∈ b
    · simp [h0]; omega
    · simp [h0]
theorem odd_of {v : Nat} {l : List (List Int)} (hv : 1 ≤ v) (ht : ∀ b, b ∈ l → tri v b) (hg : good v l = true) : v % 6 = 1 ∨ v % 6 = 3 := by
  have h1 := deg_all hv ht
  have h2 : S v (fun y => if y = 0 then 0 else cnt 0 y l) = S v (fun y => if y = 0 then 0 else 1) := by
    refine S_congr v fun i hi => ?_
    by_cases h0 : i = 0
    · rw [if_pos h0, if_pos h0]
    · rw [if_neg h0, if_neg h0]
      have := good_iff.1 hg i hi 0 (by omega)
      rw [cnt_symm] at this
      exact this
  have h3 : S v (fun y => if y = 0 then 0 else 1) + S v (fun y => if y = 0 then 1 else 0) = v := by
    rw [← S_add]
    have : S v (fun y => (if y = 0 then 0 else 1) + (if y = 0 then 1 else 0)) = S v (fun _ => 1) := S_congr v fun i _ => by split <;> rfl
    rw [this, S_const, Nat.mul_one]
  have h4 : S v (fun y => if y = 0 then 1 else 0) = 1 := S_one 1 (by omega)
  have h5 := ((good_nc ht).1 hg).2
  have h6 : v % 6 ≠ 5 := by
    intro e
    have h7 : (v * (v - 1)) % 6 = 2 := by
      rw [Nat.mul_mod, e, show (v - 1) % 6 = 4 by omega]
    omega
  omega
/-! ### The program's systems -/
theorem toI_tri {v : Nat} {z : T3} (h : (Nat.blt z.1 v && Nat.blt z.2.1 v && Nat.blt z.2.2 v && !Nat.beq z.1 z.2.1 && !Nat.beq z.2.1 z.2.2 && !Nat.beq z.1 z.2.2) = true) : tri v (sortI (toI z)) := by
  simp only [Bool.and_eq_true, Bool.not_eq_true', Nat.blt_eq] at h
  obtain ⟨⟨⟨⟨⟨h1, h2⟩, h3⟩, h4⟩, h5⟩, h6⟩ := h
  have h4 := Nat.ne_of_beq_eq_false h4
  have h5 := Nat.ne_of_beq_eq_false h5
  have h6 := Nat.ne_of_beq_eq_false h6
  exact tri_sort (by omega) (by omega) (by omega) (by omega) (by omega) (by omega)
theorem sys_of_T {v : Nat} {T : List T3} (h : okT v T = true) : (∀ b, b ∈ srt T → tri v b) ∧ good v (srt T) = true ∧ 6 * (srt T).length = v * (v - 1) := by
  unfold okT at h
  simp only [Bool.and_eq_true] at h
  obtain ⟨⟨h1, h2⟩, h3⟩ := h
  have ht : ∀ b, b ∈ srt T → tri v b := by
    intro b hb
    obtain ⟨z, hz, rfl⟩ := List.mem_map.1 hb
    exact toI_tri (List.all_eq_true.1 h1 z hz)
  have hl : 6 * (srt T).length = v * (v - 1) := by
    unfold srt
    rw [List.length_map]
    exact Nat.eq_of_beq_eq_true h2
  refine ⟨ht, good_of_ex ht hl ?_, hl⟩
  intro x hx y hy
  have h4 := List.all_eq_true.1 h3 x (List.mem_range.2 hx)
  have h5 := List.all_eq_true.1 h4 y (List.mem_range.2 hy)
  obtain ⟨z, hz, h6⟩ := List.any_eq_true.1 h5
  simp only [Bool.and_eq_true, Bool.or_eq_true] at h6
  obtain ⟨h7, h8⟩ := h6
  refine ⟨sortI (toI z), List.mem_map.2 ⟨z, hz, rfl⟩, sortI_mem.2 ?_, sortI_mem.2 ?_⟩
  · simp only [toI, List.mem_cons, List.not_mem_nil, or_false]
    rcases h7 with (h | h) | h <;> have := Nat.eq_of_beq_eq_true h <;> omega
  · simp only [toI, List.mem_cons, List.not_mem_nil, or_false]
    rcases h8 with (h | h) | h <;> have := Nat.eq_of_beq_eq_true h <;> omega
def Mk (n v : Nat) : Prop := ∃ L, triple_Make n v = some ((v : Int), L, 0) ∧ (∀ b, b ∈ L → tri v b) ∧ good v L = true ∧ 6 * L.length = v * (v - 1)
theorem mk_of {n v : Nat} {T : List T3} (hv : v ≤ 33) (hn : 2000 < n) (hk : okT v T = true) (hm : triple_Make n v = bnd (triple_system_design n (srt T) v) fun z2' => some (z2'.1, z2'.2.1, 0)) : Mk n v := by
  obtain ⟨h1, h2, h3⟩ := sys_of_T hk
  have h4 : v * (v - 1) ≤ 33 * 32 := Nat.mul_le_mul hv (by omega)
  refine ⟨sortL (srt T), ?_, fun b hb => h1 b (sortL_mem.1 hb), ?_, by rw [sortL_len]; exact h3⟩
  · rw [hm, design_eq (by omega) (fun b hb => by have := tri_len (h1 b hb); omega), bnd_sm]
  · rw [good_perm (show (sortL (srt T)).Perm (srt T) from List.mergeSort_perm _ _)]; exact h2
theorem mk_bose {n v t : Nat} {T : List T3} (hn : 2000 < n) (hv : 1 ≤ v ∧ v ≤ 33) (h3 : ((v : Int).tmod 6 == 3) = true) (ht : IntKind.i64.wrap ((v : Int).tdiv 6) = t) (hb : triple_system_bose n [] v t = some (srt T, (v : Int))) (hk : okT v T = true) : Mk n v := by
  refine mk_of hv.2 hn hk ?_
  unfold triple_Make
  rw [brO_neg (by omega), brO_neg (by omega), h3, brO_tt, ht, hb, bnd_sm]
theorem mk_skolem {n v t : Nat} {T : List T3} (hn : 2000 < n) (hv : 1 ≤ v ∧ v ≤ 33) (h3 : ((v : Int).tmod 6 == 3) = false) (h1 : ((v : Int).tmod 6 == 1) = true) (ht : IntKind.i64.wrap ((v : Int).tdiv 6) = t) (hb : triple_system_skolem n [] v t = some (srt T, (v : Int))) (hk : okT v T = true) : Mk n v := by
  refine mk_of hv.2 hn hk ?_
  unfold triple_Make
  rw [brO_neg (by omega), brO_neg (by omega), h3, brO_ff, h1, brO_tt, ht, hb, bnd_sm]
theorem mk_all {n v : Nat} (hn : 2000 < n) (hv : 1 ≤ v ∧ v ≤ 33) (h : v % 6 = 1 ∨ v % 6 = 3) : Mk n v := by
  obtain ⟨k, rfl⟩ : ∃ k, n = k + 100 := ⟨n - 100, by omega⟩
  have : v = 1 ∨ v = 7 ∨ v = 13 ∨ v = 19 ∨ v = 25 ∨ v = 31 ∨ v = 3 ∨ v = 9 ∨ v = 15 ∨ v = 21 ∨ v = 27 ∨ v = 33 := by omega
  rcases this with rfl | rfl | rfl | rfl | rfl | rfl | rfl | rfl | rfl | rfl | rfl | rfl
  · exact mk_skolem hn (by omega) rfl rfl (t := 0) (by rfl) (sk0 k) ksk0
  · exact mk_skolem hn (by omega) rfl rfl (t := 1) (by rfl) (sk1 k) ksk1
  · exact mk_skolem hn (by omega) rfl rfl (t := 2) (by rfl) (sk2 k) ksk2
  · exact mk_skolem hn (by omega) rfl rfl (t := 3) (by rfl) (sk3 k) ksk3
  · exact mk_skolem hn (by omega) rfl rfl (t := 4) (by rfl) (sk4 k) ksk4
  · exact mk_skolem hn (by omega) rfl rfl (t := 5) (by rfl) (sk5 k) ksk5
  · exact mk_bose hn (by omega) rfl (t := 0) (by rfl) (bo0 k) kbo0
  · exact mk_bose hn (by omega) rfl (t := 1) (by rfl) (bo1 k) kbo1
  · exact mk_bose hn (by omega) rfl (t := 2) (by rfl) (bo2 k) kbo2
  · exact mk_bose hn (by omega) rfl (t := 3) (by rfl) (bo3 k) kbo3
  · exact mk_bose hn (by omega) rfl (t := 4) (by rfl) (bo4 k) kbo4
  · exact mk_bose hn (by omega) rfl (t := 5) (by rfl) (bo5 k) kbo5
theorem Mk.len {n v : Nat} {L : List (List Int)} (hv : v ≤ 33) (h : 6 * L.length = v * (v - 1)) : L.length ≤ 176 := by
  have : v * (v - 1) ≤ 33 * 32 := Nat.mul_le_mul hv (by omega)
  omega
theorem fact_eq {n : Nat} (hn : 2000 < n) : law2_tripleFact n = some true := by
  obtain ⟨L, h1, h2, h3, h4⟩ := mk_all (v := 7) hn (by omega) (by omega)
  have hl : L.length = 7 := by omega
  unfold law2_tripleFact
  rw [show (7 : Int) = ((7 : Nat) : Int) from rfl, h1, bnd_sm]
  dsimp only
  rw [Check_eq' (okB_tri (by omega) (by omega) (by omega) h2) (by omega), bnd_sm, tfault_of (by omega) (by omega) (by omega) h2 h3, hl]
  rfl
theorem tail_eq {n : Nat} {p : Int} {l : List (List Int)} (h : okB n l) (hn : 2000 < n) : (bnd (triple_Check n p l) fun z4' => brO (z4' != 0) (some true) (brO ((p.tmod 6) == 1) (some true) (some ((p.tmod 6) == 3)))) = some true := by
  rw [Check_eq' h (by omega), bnd_sm]
  by_cases ht : tfault p l = 0
  · obtain ⟨q, rfl, h1, h2, h3, h4, h5⟩ := tf_nat ht
    rw [ht]
    have e : (q : Int).tmod 6 = ((q % 6 : Nat) : Int) := by rw [Int.tmod_eq_emod_of_nonneg (by omega)]; omega
    rw [e]
    rcases odd_of h1 h4 h5 with h6 | h6 <;> rw [h6] <;> rfl
  · have : (tfault p l != 0) = true := by simpa using ht
    rw [this, brO_tt]
theorem make_none {n : Nat} {v : Int} (h : ¬ (1 ≤ v ∧ v ≤ 33 ∧ (v % 6 = 1 ∨ v % 6 = 3))) : ∃ e : Int, (e == 0) = false ∧ triple_Make n v = some (0, [], e) := by
  unfold triple_Make
  by_cases h1 : v < 1
  · rw [brO_pos h1]; exact ⟨1, rfl, rfl⟩
  rw [brO_neg h1]
  by_cases h2 : v > 33
  · rw [brO_pos h2]; exact ⟨1, rfl, rfl⟩
  rw [brO_neg h2]
  have e : v.tmod 6 = v % 6 := Int.tmod_eq_emod_of_nonneg (by omega)
  have h3 : (v.tmod 6 == 3) = false := by rw [e, beq_eq_false_iff_ne]; omega
  have h4 : (v.tmod 6 == 1) = false := by rw [e, beq_eq_false_iff_ne]; omega
  rw [h3, brO_ff, h4, brO_ff]
  exact ⟨4, rfl, rfl⟩
theorem kirkman_law {n : Nat} {v p : Int} {l : List (List Int)} (h : okB n l) (hn : 2000 < n) : law2_TripleKirkman n v p l = some true := by
  have ht := tail_eq (p := p) h hn
  unfold law2_TripleKirkman
  rw [fact_eq hn, bnd_sm]
  simp only [Bool.not_true, brO_ff]
  by_cases hv : 1 ≤ v ∧ v ≤ 33 ∧ (v % 6 = 1 ∨ v % 6 = 3)
  · obtain ⟨q, rfl⟩ : ∃ q : Nat, v = q := ⟨v.toNat, by omega⟩
    obtain ⟨L, h1, h2, h3, h4⟩ := mk_all (v := q) hn (by omega) (by omega)
    have hl := Mk.len (n := n) (v := q) (by omega) h4
    have hB : okB n L := okB_tri (by omega) (by omega) (by omega) h2
    have hd : dck q L = 0 := dck_of_tri (by omega) (by omega) (by omega) h2
    rw [h1, bnd_sm]
    have e0 : ((0 : Int) == 0) = true := rfl
    have e1 : ((q : Int) != (q : Int)) = false := by simp
    have hq : q * (q - 1) ≤ 33 * 32 := Nat.mul_le_mul (by omega) (by omega)
    have hcast : (q : Int) * ((q : Int) - 1) = ((q * (q - 1) : Nat) : Int) := by
      rw [Int.natCast_mul, Int.natCast_sub (by omega)]
      rfl
    have e2 : ((IntKind.i64.wrap ((L.length : Int) * 6)) != (IntKind.i64.wrap ((q : Int) * (IntKind.i64.wrap ((q : Int) - 1))))) = false := by
      rw [w64 (x := (L.length : Int) * 6) (by omega), w64 (x := (q : Int) - 1) (by omega), hcast, w64 (by omega)]
      simp only [bne_eq_false_iff_eq]
      omega
    simp only [e0, brO_tt]
    by_cases hq1 : q = 1
    · subst hq1
      have hLe : L = [] := List.length_eq_zero_iff.1 (by omega)
      subst hLe
      have hlev : design_Level n ((1 : Nat) : Int) [] 2 = some (0, 0, 1) := by
        unfold design_Level
        rw [dCheck_eq hB, hd, bnd_sm]
        have e0 : ((0 : Int) != 0) = false := rfl
        rw [e0, brO_ff, brO_neg (by omega), brO_neg (by omega), brO_pos (by omega)]
      rw [hlev, bnd_sm, brO_neg (by omega), e1, brO_ff, e2, brO_ff]
      exact ht
    · have hpos : 0 < L.length := by
        have : 3 * 2 ≤ q * (q - 1) := Nat.mul_le_mul (by omega) (by omega)
        omega
      rw [Level_eq hB (by omega) hd (by omega) (List.ne_nil_of_length_pos hpos) (k := 3) (c := 1) (fun b hb => tri_len (h2 b hb)) (fun x y hxy hy => by rw [cnt_symm]; exact good_iff.1 h3 y hy x hxy), bnd_sm, brO_pos (by omega)]
      simp only [e1, e2, brO_ff]
      exact ht
  · obtain ⟨e, he, hm⟩ := make_none (n := n) hv
    rw [hm, bnd_sm]
    simp only [he, brO_ff]
    by_cases h1 : v ≥ 1
    · rw [brO_pos h1]
      by_cases h2 : v ≤ 33
      · rw [brO_pos h2]
        have e : v.tmod 6 = v % 6 := Int.tmod_eq_emod_of_nonneg (by omega)
        have h3 : (v.tmod 6 == 3) = false := by rw [e, beq_eq_false_iff_ne]; omega
        have h4 : (v.tmod 6 == 1) = false := by rw [e, beq_eq_false_iff_ne]; omega
        rw [h3, h4, brO_ff, brO_ff]
        exact ht
      · rw [brO_neg h2]
        exact ht
    · rw [brO_neg h1]
      exact ht
end Go.Gl
