/-
  L7: what opens a system of triples tells what the document tells.
  Conditions: none; plain laws.
-/
import Derived.Test.YtjneiglpfdkehaaL6
namespace Go.Gl
open Go Go.Gx Go.Gm
theorem cnt_app (u v : Int) (l : List (List Int)) (b : List Int) : cnt u v (l ++ [b]) = cnt u v l + if two u v b = true then 1 else 0 := by
  unfold cnt
  rw [List.countP_append]
  simp [List.countP_cons, two]
theorem cnt_cons (u v : Int) (l : List (List Int)) (b : List Int) : cnt u v (b :: l) = cnt u v l + if two u v b = true then 1 else 0 := by
  unfold cnt
  rw [List.countP_cons]
  rfl
theorem cnt_zero {u v : Int} {l : List (List Int)} : cnt u v l = 0 ↔ ∀ b, b ∈ l → ¬ (u ∈ b ∧ v ∈ b) := by
  unfold cnt
  rw [List.countP_eq_zero]
  simp
theorem cnt_symm (u v : Int) (l : List (List Int)) : cnt u v l = cnt v u l := by
  unfold cnt
  congr 1
  funext b
  rw [Bool.and_comm]
theorem NC_cnt : ∀ (l s : List (List Int)), (∀ u v, u ≠ v → cnt u v s ≤ 1) → (NC s l ↔ ∀ u v, u ≠ v → cnt u v (s ++ l) ≤ 1)
  | [], s, h => by simp only [NC, List.append_nil, true_iff]; exact h
  | b :: l, s, h => by
    have e : s ++ b :: l = (s ++ [b]) ++ l := by simp
    unfold NC
    rw [e]
    constructor
    · rintro ⟨h1, h2⟩
      refine (NC_cnt l (s ++ [b]) fun u v huv => ?_).1 h2
      rw [cnt_app]
      split
      · rename_i ht
        have ht := two_iff.1 ht
        have : cnt u v s = 0 := cnt_zero.2 fun c hc hcc => h1 c hc ⟨u, v, huv, ht.1, ht.2, hcc.1, hcc.2⟩
        omega
      · have := h u v huv; omega
    · intro h'
      have hsb : ∀ u v, u ≠ v → cnt u v (s ++ [b]) ≤ 1 := by
        intro u v huv
        have := h' u v huv
        have hle : cnt u v (s ++ [b]) ≤ cnt u v (s ++ [b] ++ l) := by
          unfold cnt
          rw [List.countP_append (l₁ := s ++ [b])]
          omega
        omega
      refine ⟨fun c hc => ?_, (NC_cnt l (s ++ [b]) hsb).2 h'⟩
      rintro ⟨u, v, huv, hu, hv, hcu, hcv⟩
      have h1 := hsb u v huv
      rw [cnt_app, if_pos (two_iff.2 ⟨hu, hv⟩)] at h1
      have h2 : cnt u v s = 0 := by omega
      exact cnt_zero.1 h2 c hc ⟨hcu, hcv⟩
/-! ### Counting pairs -/
theorem tri_pairs {p : Nat} {b : List Int} (hb : tri p b) : S p (fun x => S x (fun y => if two x y b = true then 1 else 0)) = 3 := by
  obtain ⟨x, y, z, rfl, h0, h1, h2, h3⟩ := hb
  obtain ⟨x, rfl⟩ := Int.eq_ofNat_of_zero_le h0
  obtain ⟨y, rfl⟩ := Int.eq_ofNat_of_zero_le (show 0 ≤ y by omega)
  obtain ⟨z, rfl⟩ := Int.eq_ofNat_of_zero_le (show 0 ≤ z by omega)
  have e : ∀ a, a < p → S a (fun d => if two (a : Int) (d : Int) [(x : Int), (y : Int), (z : Int)] = true then 1 else 0) = (if a = y then 1 else 0) + (if a = z then 2 else 0) := by
    intro a ha
    have e1 : ∀ d, d < a → (if two (a : Int) (d : Int) [(x : Int), (y : Int), (z : Int)] = true then 1 else 0) = (if a = y then (if d = x then 1 else 0) else 0) + ((if a = z then (if d = x then 1 else 0) else 0) + (if a = z then (if d = y then 1 else 0) else 0)) := by
      intro d hd
      have : (two (a : Int) (d : Int) [(x : Int), (y : Int), (z : Int)] = true) ↔ (a = y ∧ d = x) ∨ (a = z ∧ d = x) ∨ (a = z ∧ d = y) := by
        rw [two_iff]
        simp only [List.mem_cons, List.not_mem_nil, or_false]
        omega
      by_cases c1 : a = y
      · by_cases c2 : d = x
        · rw [if_pos (this.2 (.inl ⟨c1, c2⟩)), if_pos c1, if_pos c2, if_neg (by omega), if_neg (by omega)]
        · rw [if_neg (fun h => by have := this.1 h; omega), if_pos c1, if_neg c2, if_neg (by omega), if_neg (by omega)]
      · by_cases c3 : a = z
        · by_cases c2 : d = x
          · rw [if_pos (this.2 (.inr (.inl ⟨c3, c2⟩))), if_neg c1, if_pos c3, if_pos c2, if_pos c3, if_neg (by omega)]
          · by_cases c4 : d = y
            · rw [if_pos (this.2 (.inr (.inr ⟨c3, c4⟩))), if_neg c1, if_pos c3, if_neg c2, if_pos c3, if_pos c4]
            · rw [if_neg (fun h => by have := this.1 h; omega), if_neg c1, if_pos c3, if_neg c2, if_pos c3, if_neg c4]
        · rw [if_neg (fun h => by have := this.1 h; omega), if_neg c1, if_neg c3, if_neg c3]
    rw [S_congr a e1, S_add, S_add]
    by_cases c1 : a = y
    · subst c1
      simp only [if_true, if_neg (show ¬ a = z by omega)]
      rw [S_one 1 (by omega), S_zero]
    · by_cases c3 : a = z
      · subst c3
        simp only [if_true, if_neg c1]
        rw [S_one 1 (by omega), S_one 1 (by omega), S_zero]
      · simp only [if_neg c1, if_neg c3, S_zero]
  rw [S_congr p e, S_add, S_one 1 (by omega), S_one 2 (by omega)]
theorem pairs_sum {p : Nat} : ∀ {l : List (List Int)}, (∀ b, b ∈ l → tri p b) → S p (fun x => S x (fun y => cnt x y l)) = 3 * l.length
  | [], _ => by
    have : ∀ x, S x (fun y => cnt (x : Int) (y : Int) []) = 0 := fun x => S_zero' fun _ _ => rfl
    simp only [this, S_zero]
    rfl
  | b :: l, h => by
    have e : S p (fun x => S x (fun y => cnt x y (b :: l))) = S p (fun x => S x (fun y => cnt x y l) + S x (fun y => if two x y b = true then 1 else 0)) :=
      S_congr p fun x _ => by rw [← S_add]; exact S_congr x fun y _ => cnt_cons _ _ _ _
    rw [e, S_add, pairs_sum fun c hc => h c (List.mem_cons_of_mem _ hc), tri_pairs (h b (List.mem_cons_self ..)), List.length_cons]
    omega
theorem good_iff {p : Nat} {l : List (List Int)} : good p l = true ↔ ∀ x, x < p → ∀ y, y < x → cnt x y l = 1 := by
  simp [good]
theorem good_nc {p : Nat} {l : List (List Int)} (ht : ∀ b, b ∈ l → tri p b) : good p l = true ↔ NC [] l ∧ 6 * l.length = p * (p - 1) := by
  have hsum := pairs_sum ht
  have hg := S_gauss p
  have hle : ∀ u v, u ≠ v → cnt u v [] ≤ 1 := fun _ _ _ => by simp [cnt]
  rw [NC_cnt l [] hle, good_iff]
  simp only [List.nil_append]
  constructor
  · intro h
    have e : S p (fun x => S x (fun y => cnt x y l)) = S p (fun x => x) := S_congr p fun x hx => by
      rw [S_congr x (g := fun _ => 1) fun y hy => h x hx y hy, S_const]
      omega
    refine ⟨fun u v huv => ?_, by omega⟩
    rcases Nat.eq_zero_or_pos (cnt u v l) with h0 | h0
    · omega
    · have : ¬ ∀ b, b ∈ l → ¬ (u ∈ b ∧ v ∈ b) := fun h' => by have := cnt_zero.2 h'; omega
      have : ∃ b, b ∈ l ∧ u ∈ b ∧ v ∈ b := Classical.byContradiction fun h1 => this fun b hb hbb => h1 ⟨b, hb, hbb⟩
      obtain ⟨b, hb, hu, hv⟩ := this
      obtain ⟨x, y, z, rfl, h0', h1, h2, h3⟩ := ht b hb
      simp only [List.mem_cons, List.not_mem_nil, or_false] at hu hv
      obtain ⟨a, rfl⟩ := Int.eq_ofNat_of_zero_le (show 0 ≤ u by omega)
      obtain ⟨d, rfl⟩ := Int.eq_ofNat_of_zero_le (show 0 ≤ v by omega)
      rcases Nat.lt_or_gt_of_ne (show a ≠ d by omega) with hlt | hlt
      · rw [cnt_symm, h d (by omega) a hlt]; omega
      · rw [h a (by omega) d hlt]; omega
  · rintro ⟨h1, h2⟩ x hx
    have e : S p (fun x => S x (fun y => cnt x y l)) = S p (fun x => S x (fun _ => 1)) := by
      rw [hsum, S_congr p (f := fun x => S x (fun _ => 1)) (g := fun x => x) fun x _ => by rw [S_const]; omega]
      omega
    have hx' := S_eq_of_le p (fun x _ => S_le x fun y hy => h1 x y (by omega)) e x hx
    exact S_eq_of_le x (fun y hy => h1 x y (by omega)) hx'
/-! ### What opens a system -/
theorem open1_eq {n : Nat} {b : List Int} : triple_open_1 n b = some (!(b.length == 3)) := by
  unfold triple_open_1
  congr 1
  rw [Bool.eq_iff_iff]
  simp
  omega
theorem oIndexFunc_eq {n : Nat} {l : List (List Int)} (hl : l.length ≤ 9223372036854775807) (hn : l.length < n) :
    slices_IndexFunc_intint__triple_open_1 n l = some (findI (fun b => !(b.length == 3)) 0 l) := by
  unfold slices_IndexFunc_intint__triple_open_1 slices_IndexFunc_intint__triple_open_1_l2
  refine (iter_idx l (fun i (_ : Unit) => (i : Int)) (fun i v s nx => if (!(v.length == 3)) = true then some (i : Int) else nx s) (fun _ => some (-1)) ?_ ?_ n 0 () (Nat.zero_le _) (by omega)).trans ?_
  · intro i s nx h
    unfold slices_IndexFunc_intint__triple_open_1_s2
    simp (disch := omega) only [brO_pos, chk_pos, bnd_get, w64s, Int.toNat_natCast, open1_eq, bnd_sm]
    simp only [brO_if]
  · intro s nx
    unfold slices_IndexFunc_intint__triple_open_1_s2
    simp (disch := omega) only [brO_neg]
  · rw [List.drop_zero]
    exact findI_fold _ 0 l
theorem oContainsFunc_eq {n : Nat} {l : List (List Int)} (hl : l.length ≤ 9223372036854775807) (hn : l.length < n) : slices_ContainsFunc_intint__triple_open_1 n l = some (!len3 l) := by
  unfold slices_ContainsFunc_intint__triple_open_1
  rw [oIndexFunc_eq hl hn, bnd_sm, findI_any, List.any_eq_not_all_not]
  simp only [Bool.not_not]
  rfl
theorem inc_three {x y z : Int} (h : inc [x, y, z] = true) : x < y ∧ y < z := by
  simp [inc] at h
  exact h
theorem scan_zero {p : Int} : ∀ {l : List (List Int)}, scan p l = 0 → ∀ b, b ∈ l → (∀ x, x ∈ b → 0 ≤ x ∧ x < p) ∧ inc b = true
  | [], _, b, hb => by simp at hb
  | c :: l, h, b, hb => by
    unfold scan at h
    split at h
    · rename_i h0
      rcases List.mem_cons.1 hb with rfl | hb
      · unfold ck at h0
        split at h0
        · omega
        · rename_i ha
          split at h0
          · rename_i hi
            refine ⟨fun x hx => ?_, hi⟩
            have : outB p x = false := by
              cases ho : outB p x with
              | false => rfl
              | true => exact (ha (List.any_eq_true.2 ⟨x, hx, ho⟩)).elim
            unfold outB at this
            simp at this
            omega
          · omega
      · exact scan_zero h b hb
    · omega
theorem tri_of {p : Int} {l : List (List Int)} (h : dck p l = 0) (h3 : len3 l = true) : ∀ b, b ∈ l → tri p b := by
  intro b hb
  have hs : scan p l = 0 := by
    unfold dck at h
    split at h
    · omega
    · split at h
      · omega
      · split at h
        · omega
        · exact h
  obtain ⟨h1, h2⟩ := scan_zero hs b hb
  unfold len3 at h3
  have := List.all_eq_true.1 h3 b hb
  simp only [beq_iff_eq] at this
  match b, this, h1, h2 with
  | [x, y, z], _, h1, h2 =>
    have := inc_three h2
    exact ⟨x, y, z, rfl, (h1 x (by simp)).1, this.1, this.2, (h1 z (by simp)).2⟩
theorem tri_mono {p q : Int} {b : List Int} (h : tri p b) (hpq : p ≤ q) : tri q b := by
  obtain ⟨x, y, z, rfl, h0, h1, h2, h3⟩ := h
  exact ⟨x, y, z, rfl, h0, h1, h2, by omega⟩
theorem open_eq {n : Nat} {p : Int} {l : List (List Int)} (h : okB n l) (hn : 40 < n) : ∃ T, triple_open n p l = some (T, tfault p l) ∧ T.length = 1600 ∧ (tfault p l = 0 → Rep l T) := by
  have hz : zeros.length = 1600 := List.length_replicate ..
  have hzz : (List.replicate 1600 (0 : Int)).length = 1600 := List.length_replicate ..
  have hzb : ((List.replicate 1600 (0 : Int)).length == 1600) = true := by rw [hzz]; rfl
  unfold triple_open tfault
  rw [dCheck_eq h, bnd_sm, brO_if]
  by_cases h0 : dck p l = 0
  · obtain ⟨q1, q2, q3⟩ := dck_zero h0
    simp only [h0, bne_self_eq_false, Bool.false_eq_true, if_false, if_true]
    rw [oContainsFunc_eq h.1 h.2.1, bnd_sm, brO_if]
    cases h3 : len3 l with
    | false =>
      simp only [Bool.not_false, if_true, Bool.false_eq_true, if_false]
      refine ⟨zeros, ?_, hz, by omega⟩
      rw [chk_T, chk_pos hzz, chk_pos hzz, chk_pos hzb]
      rfl
    | true =>
      simp only [Bool.not_true, Bool.false_eq_true, if_false, if_true]
      have ht := tri_of h0 h3
      have ht40 : ∀ b, b ∈ l → tri 40 b := fun b hb => tri_mono (ht b hb) q2
      rw [third_eq h.1 h.2.1 hn ht40, bnd_sm]
      obtain ⟨q, rfl⟩ := Int.eq_ofNat_of_zero_le (show 0 ≤ p by omega)
      have hgn := good_nc (p := q) ht
      obtain ⟨t1, t2⟩ := thirdT_ok l [] none0 rep_none (by simpa using ht40)
      have hw : (IntKind.i64.wrap (6 * (l.length : Int)) != IntKind.i64.wrap ((q : Int) * IntKind.i64.wrap ((q : Int) - 1))) = !(decide (6 * l.length = q * (q - 1))) := by
        have hq : (q : Int) ≤ 40 := q2
        have hm : (q : Int) * ((q : Int) - 1) = ((q * (q - 1) : Nat) : Int) := by
          cases q with
          | zero => rfl
          | succ m => simp
        have hb1 : q * (q - 1) ≤ 40 * 40 := Nat.mul_le_mul (by omega) (by omega)
        rw [w64 (x := 6 * (l.length : Int)) (by omega), w64 (x := (q : Int) - 1) (by omega), hm, w64 (by omega)]
        rw [Bool.eq_iff_iff]
        simp
        omega
      by_cases hnc : NC [] l
      · obtain ⟨T, e1, hR⟩ := t1 hnc
        rw [e1]
        simp only
        rw [chk_T, chk_pos hR.len, chk_pos hzz, brO_if]
        simp only [Bool.not_true, Bool.false_eq_true, if_false, Int.toNat_natCast]
        rw [brO_if, hw]
        by_cases h6 : 6 * l.length = q * (q - 1)
        · have hg : good q l = true := hgn.2 ⟨hnc, h6⟩
          simp only [h6, decide_true, Bool.not_true, Bool.false_eq_true, if_false, hg, if_true]
          refine ⟨T, ?_, hR.len, fun _ => by simpa using hR⟩
          have hb : (T.length == 1600) = true := by rw [hR.len]; rfl
          rw [chk_T, chk_pos hR.len, chk_T, chk_pos hR.len, chk_pos hzz, chk_pos hb]
        · have hg : ¬ good q l = true := fun h' => h6 (hgn.1 h').2
          simp only [h6, decide_false, Bool.not_false, if_true, hg, if_false]
          refine ⟨zeros, ?_, hz, fun h => by simp at h⟩
          rw [chk_T, chk_pos hzz, chk_pos hzz, chk_pos hzb]
          rfl
      · rw [t2 hnc]
        have hg : ¬ good q l = true := fun h' => hnc (hgn.1 h').1
        simp only [Int.toNat_natCast, hg, if_false]
        rw [chk_T, chk_pos hz, chk_pos hzz, brO_if]
        simp only [Bool.not_false, if_true]
        refine ⟨zeros, ?_, hz, fun h => by simp at h⟩
        rw [chk_T, chk_pos hzz, chk_pos hzz, chk_pos hzb]
        rfl
  · simp only [h0, if_false]
    have : (dck p l != 0) = true := by simpa using h0
    rw [if_pos this]
    refine ⟨zeros, ?_, hz, fun h => by first | exact h.elim | exact (h0 h).elim⟩
    rw [chk_T, chk_pos hzz, chk_pos hzz, chk_pos hzb]
    rfl
end Go.Gl
