/-
  L8: the passes that the program counts, as a sum.
  Conditions: none; plain laws.
-/
import Derived.Test.YtjneiglpfdkehaaL7
namespace Go.Gl
open Go Go.Gx Go.Gm
section
variable {ρ : Type}
theorem S_left (f : Nat → Nat) : ∀ (n : Nat), S (n + 1) f = f 0 + S n (fun i => f (i + 1))
  | 0 => by simp [S]
  | n + 1 => by rw [S_succ, S_left f n, S_succ]; omega
theorem S_from {a : Nat} (g : Nat → Nat) : ∀ (m : Nat), S (a + m) (fun i => if a ≤ i then g i else 0) = S m (fun j => g (a + j))
  | 0 => S_zero' fun i hi => if_neg (by omega)
  | m + 1 => by
    rw [show a + (m + 1) = (a + m) + 1 from rfl, S_succ, S_succ, S_from g m]
    simp
theorem foldO_rsum {F : Nat → Int → (Int → Option ρ) → Option ρ} {k : Int → Option ρ} (g : Nat → Nat) (M B : Nat) : ∀ (m a c : Nat), c + M * m ≤ B → (∀ i, a ≤ i → i < a + m → g i ≤ M) →
    (∀ i (c : Nat) nx, a ≤ i → i < a + m → c ≤ B → F i (c : Int) nx = nx ((c + g i : Nat) : Int)) → foldO F k (List.range' a m) (c : Int) = k ((c + S m (fun j => g (a + j)) : Nat) : Int)
  | 0, a, c, _, _, _ => by simp [foldO, S]
  | m + 1, a, c, hB, hg, hF => by
    rw [List.range'_succ, foldO_cons, hF a c _ (Nat.le_refl _) (by omega) (by omega)]
    have h1 := hg a (Nat.le_refl _) (by omega)
    have h2 : M * (m + 1) = M * m + M := Nat.mul_succ ..
    rw [foldO_rsum g M B m (a + 1) (c + g a) (by omega) (fun i h h' => hg i (by omega) (by omega)) (fun i c nx h h' => hF i c nx (by omega) (by omega)), S_left]
    congr 2
    have : S m (fun j => g (a + 1 + j)) = S m (fun i => g (a + (i + 1))) := S_congr m fun i _ => by congr 1; omega
    rw [this]
    simp only [Nat.add_zero]
    omega
theorem Index_eq {n : Nat} {b : List Int} {v : Int} (hl : b.length ≤ 9223372036854775807) (hn : b.length < n) : slices_Index_intint n b v = some (findI (fun a => v == a) 0 b) := by
  unfold slices_Index_intint slices_Index_intint_l2
  refine (iter_idx b (fun i (_ : Unit) => (i : Int)) (fun i a s nx => if (v == a) = true then some (i : Int) else nx s) (fun _ => some (-1)) ?_ ?_ n 0 () (Nat.zero_le _) (by omega)).trans ?_
  · intro i s nx h
    unfold slices_Index_intint_s2
    simp (disch := omega) only [brO_pos, chk_pos, bnd_get, w64s, Int.toNat_natCast]
    simp only [brO_if]
  · intro s nx
    unfold slices_Index_intint_s2
    simp (disch := omega) only [brO_neg]
  · rw [List.drop_zero]
    exact findI_fold _ 0 b
theorem Contains_eq {n : Nat} {b : List Int} {v : Int} (hl : b.length ≤ 9223372036854775807) (hn : b.length < n) : slices_Contains_intint n b v = some (decide (v ∈ b)) := by
  unfold slices_Contains_intint
  rw [Index_eq hl hn, bnd_sm, findI_any]
  congr 1
  rw [Bool.eq_iff_iff]
  simp
/-- The other two points of a block. -/
def oth (b : List Int) (p : Int) : Int × Int := match b with
  | [x, y, z] => if p = x then (y, z) else if p = y then (z, x) else (x, y)
  | _ => (0, 0)
theorem others_eq {n : Nat} {b : List Int} {p q : Int} (hb : tri q b) (hp : p ∈ b) (hn : 3 < n) : triple_others n b p = some (oth b p) := by
  obtain ⟨x, y, z, rfl, h0, h1, h2, h3⟩ := hb
  unfold triple_others
  rw [Index_eq (by simp) (by simpa using hn), bnd_sm]
  simp only [List.mem_cons, List.not_mem_nil, or_false] at hp
  have e : findI (fun a => p == a) 0 [x, y, z] = if p = x then 0 else if p = y then 1 else 2 := by
    simp only [findI, beq_iff_eq]
    split
    · rfl
    · split
      · rfl
      · rw [if_pos (by omega)]; rfl
  rw [e]
  unfold oth
  simp only
  rcases hp with rfl | rfl | rfl
  · rw [if_pos rfl, if_pos rfl]; rfl
  · rw [if_neg (by omega), if_pos rfl, if_neg (by omega), if_pos rfl]; rfl
  · rw [if_neg (by omega), if_neg (by omega), if_neg (by omega), if_neg (by omega)]; rfl
/-- What the table holds, as a number. -/
def tv (T : List Int) (u v : Int) : Int := T.getD (ix u v) 0
theorem tv_get {T : List Int} (hT : T.length = 1600) {u v : Int} (hu : inR u) (hv : inR v) : T[ix u v]? = some (tv T u v) := by
  unfold tv
  have := ix_lt hu hv
  rw [List.getElem?_eq_getElem (by omega)]
  simp [List.getD, List.getElem?_eq_getElem (show ix u v < T.length by omega)]
/-- How many of the two ways two blocks at a point pass. -/
def mm (T : List Int) (p : Int) (b c : List Int) : Nat :=
  (if tv T (oth b p).1 (oth c p).1 = tv T (oth b p).2 (oth c p).2 then 1 else 0) + (if tv T (oth b p).1 (oth c p).2 = tv T (oth b p).2 (oth c p).1 then 1 else 0)
theorem mm_le (T : List Int) (p : Int) (b c : List Int) : mm T p b c ≤ 2 := by unfold mm; split <;> split <;> omega
theorem oth_inR {b : List Int} {p : Int} (hb : tri 40 b) : inR (oth b p).1 ∧ inR (oth b p).2 := by
  obtain ⟨x, y, z, rfl, h0, h1, h2, h3⟩ := hb
  unfold oth inR
  simp only
  split
  · exact ⟨by simp only; omega, by simp only; omega⟩
  · split
    · exact ⟨by simp only; omega, by simp only; omega⟩
    · exact ⟨by simp only; omega, by simp only; omega⟩
theorem ps_s20 {n : Nat} {p : Int} {l at47 C : List (List Int)} {T : List Int} {v : Int} {at8 : List (List Int)} {t28 t29 t48 t49 : Int} {b c : List Int} {s j : Nat} {next : Int → Int → Option ρ} {k0 : Int → Option ρ}
    (hn : 3 < n) (hT : T.length = 1600) (hb : tri 40 b) (hc : tri 40 c) (hvc : v ∈ c) (hj : j < C.length) (hcj : C[j]? = some c) (hC : C.length ≤ 200) (hs : s ≤ 4000000000) :
    triple_Passes_s20 n p l T v at8 (oth b v).1 (oth b v).2 t28 t29 at47 t48 t49 C (C.length : Int) (s : Int) (j : Int) next k0 = next ((s + mm T v b c : Nat) : Int) ((j + 1 : Nat) : Int) := by
  obtain ⟨rb1, rb2⟩ := oth_inR (p := v) hb
  obtain ⟨rc1, rc2⟩ := oth_inR (p := v) hc
  have g1 := tv_get hT rb1 rc1
  have g2 := tv_get hT rb2 rc2
  have g3 := tv_get hT rb1 rc2
  have g4 := tv_get hT rb2 rc1
  have ho := others_eq (n := n) hc hvc hn
  unfold triple_Passes_s20
  unfold mm
  unfold ix at g1 g2 g3 g4
  generalize oth b v = B at *
  simp (disch := omega) only [brO_pos, chk_pos, Int.toNat_natCast, hcj, bnd_sm]
  rw [ho, bnd_sm]
  generalize oth c v = D at *
  unfold inR at rb1 rb2 rc1 rc2
  simp (disch := omega) only [chk_pos, g1, g2, g3, g4, bnd_sm, w64s]
  have w1 : IntKind.i64.wrap ((s : Int) + 1) = ((s + 1 : Nat) : Int) := w64s (by omega)
  have w2 : IntKind.i64.wrap (((s + 1 : Nat) : Int) + 1) = ((s + 2 : Nat) : Int) := w64s (by omega)
  simp only [w1, w2, brO_if, beq_iff_eq]
  split <;> split <;> rfl
theorem ps_l20 {n : Nat} {p : Int} {l at47 : List (List Int)} {T : List Int} {v : Int} {at8 : List (List Int)} {t28 t29 t48 t49 : Int} {b : List Int} {s i : Nat} {k0 : Int → Option ρ}
    (hn : 200 < n) (hT : T.length = 1600) (hb : tri 40 b) (hat : ∀ c, c ∈ at8 → tri 40 c ∧ v ∈ c) (hi : i ≤ at8.length) (hlen : at8.length ≤ 200) (hs : s ≤ 3000000000) :
    triple_Passes_l20 n p l T v at8 (oth b v).1 (oth b v).2 t28 t29 at47 t48 t49 (at8.take i) ((at8.take i).length : Int) (s : Int) 0 k0 = k0 ((s + S i (fun j => mm T v b (at8.getD j [])) : Nat) : Int) := by
  unfold triple_Passes_l20
  have hl : (at8.take i).length = i := by simp; omega
  refine (iter_range i (fun j (s : Int) => (s, (j : Int))) (fun j s nx => triple_Passes_s20 n p l T v at8 (oth b v).1 (oth b v).2 t28 t29 at47 t48 t49 (at8.take i) ((at8.take i).length : Int) s (j : Int) (fun a _ => nx a) k0) k0 ?_ ?_ n 0 (s : Int) (Nat.zero_le _) (by omega)).trans ?_
  · intro j s nx hj
    unfold triple_Passes_s20
    have hj' : (j : Int) < ((at8.take i).length : Int) := by omega
    rw [brO_pos hj', brO_pos hj', w64s (by omega)]
  · intro s nx
    unfold triple_Passes_s20
    rw [brO_neg (by rw [hl]; omega)]
  · rw [Nat.sub_zero]
    refine (foldO_rsum (fun j => mm T v b (at8.getD j [])) 2 4000000000 i 0 s (by omega) (fun j _ _ => mm_le _ _ _ _) ?_).trans ?_
    · intro j c nx _ hj hc
      have hj8 : j < at8.length := by omega
      obtain ⟨h1, h2⟩ := hat at8[j] (List.getElem_mem hj8)
      have hg : at8.getD j [] = at8[j] := by simp [List.getD, List.getElem?_eq_getElem hj8]
      rw [hg]
      refine ps_s20 (by omega) hT hb h1 h2 (by rw [hl]; omega) ?_ (by rw [hl]; omega) hc
      rw [List.getElem?_take, if_pos (by omega), List.getElem?_eq_getElem hj8]
    · simp only [Nat.zero_add]
/-- The pairs of a list, summed. -/
def pairS (l : List (List Int)) (m : List Int → List Int → Nat) : Nat := S l.length fun i => S i fun j => m (l.getD i []) (l.getD j [])
theorem ps_l16 {n : Nat} {p : Int} {l : List (List Int)} {T : List Int} {v : Int} {at8 : List (List Int)} {t28 t29 : Int} {s : Nat} {k0 : Int → Option ρ}
    (hn : 200 < n) (hT : T.length = 1600) (hat : ∀ c, c ∈ at8 → tri 40 c ∧ v ∈ c) (hlen : at8.length ≤ 200) (hs : s ≤ 1000000000) :
    triple_Passes_l16 n p l T v at8 t28 t29 at8 (at8.length : Int) (s : Int) 0 k0 = k0 ((s + pairS at8 (mm T v) : Nat) : Int) := by
  unfold triple_Passes_l16
  refine (iter_range at8.length (fun j (s : Int) => (s, (j : Int))) (fun j s nx => triple_Passes_s16 n p l T v at8 t28 t29 at8 (at8.length : Int) s (j : Int) (fun a _ => nx a) k0) k0 ?_ ?_ n 0 (s : Int) (Nat.zero_le _) (by omega)).trans ?_
  · intro j s nx hj
    unfold triple_Passes_s16
    have hj' : (j : Int) < (at8.length : Int) := by omega
    rw [brO_pos hj', brO_pos hj', w64s (by omega)]
  · intro s nx
    unfold triple_Passes_s16
    rw [brO_neg (by omega)]
  · rw [Nat.sub_zero]
    refine (foldO_rsum (fun i => S i fun j => mm T v (at8.getD i []) (at8.getD j [])) 400 2000000000 at8.length 0 s (by omega) ?_ ?_).trans ?_
    · intro i _ hi
      have := S_le i (f := fun j => mm T v (at8.getD i []) (at8.getD j [])) (g := fun _ => 2) fun j _ => mm_le _ _ _ _
      rw [S_const] at this
      omega
    · intro i c nx _ hi hc
      have hi8 : i < at8.length := by omega
      obtain ⟨h1, h2⟩ := hat at8[i] (List.getElem_mem hi8)
      have hg : at8.getD i [] = at8[i] := by simp [List.getD, List.getElem?_eq_getElem hi8]
      rw [hg]
      unfold triple_Passes_s16
      simp (disch := omega) only [brO_pos, chk_pos, bnd_get, Int.toNat_natCast]
      rw [others_eq h1 h2 (by omega), bnd_sm]
      rw [ps_l20 hn hT h1 hat (by omega) hlen (by omega)]
    · simp only [Nat.zero_add]
      rfl
theorem ps_l10 {n : Nat} {p : Int} {l : List (List Int)} {T : List Int} {t6 v t28 t29 : Int} {k0 : List (List Int) → Option ρ} (h : okB n l) (hlen : l.length ≤ 200) :
    triple_Passes_l10 n p l T t6 v t28 t29 l (l.length : Int) [] 0 k0 = k0 (l.filter fun b => decide (v ∈ b)) := by
  obtain ⟨h1, h2, h3⟩ := h
  unfold triple_Passes_l10
  refine (iter_list l (fun j (s : List (List Int)) => (s, (j : Int))) (fun b s nx => if v ∈ b then chk ((s ++ [b]).length < 2 ^ 40) (nx (s ++ [b])) else nx s) k0 ?_ ?_ n 0 [] (Nat.zero_le _) (by omega)).trans ?_
  · intro j s nx hj
    have hb := h3 _ (List.getElem_mem hj)
    unfold triple_Passes_s10
    simp (disch := omega) only [brO_pos, chk_pos, chk_T, bnd_get, Int.toNat_natCast, w64s]
    rw [Contains_eq hb.1 hb.2, bnd_sm, brO_if]
    by_cases hv : v ∈ l[j] <;> simp [hv]
  · intro s nx
    unfold triple_Passes_s10
    rw [brO_neg (by omega)]
  · rw [List.drop_zero]
    have key : ∀ (r s : List (List Int)), s.length + r.length ≤ 200 → foldO (fun b s nx => if v ∈ b then chk ((s ++ [b]).length < 2 ^ 40) (nx (s ++ [b])) else nx s) k0 r s = k0 (s ++ r.filter fun b => decide (v ∈ b)) := by
      intro r
      induction r with
      | nil => intro s _; simp [foldO]
      | cons b r ih =>
        intro s hs
        rw [List.length_cons] at hs
        rw [foldO_cons]
        by_cases hv : v ∈ b
        · rw [if_pos hv, chk_pos (by simp; omega), ih _ (by simp; omega)]
          simp [hv]
        · rw [if_neg hv, ih _ (by omega)]
          simp [hv]
    have := key l [] (by simpa using hlen)
    simpa using this
/-- What the program counts. -/
def total (T : List Int) (q : Nat) (l : List (List Int)) : Nat := S q fun v => pairS (l.filter fun b => decide ((v : Int) ∈ b)) (mm T v)
theorem pairS_le {l : List (List Int)} {m : List Int → List Int → Nat} (hm : ∀ b c, m b c ≤ 2) (hl : l.length ≤ 200) : pairS l m ≤ 80000 := by
  unfold pairS
  have h1 := S_le l.length (f := fun i => S i fun j => m (l.getD i []) (l.getD j [])) (g := fun _ => 400) fun i hi => by
    have := S_le i (f := fun j => m (l.getD i []) (l.getD j [])) (g := fun _ => 2) fun j _ => hm _ _
    rw [S_const] at this
    omega
  rw [S_const] at h1
  have : l.length * 400 ≤ 200 * 400 := Nat.mul_le_mul_right _ hl
  omega
theorem ps_l6 {n q : Nat} {l : List (List Int)} {T : List Int} {k0 : Int → Option ρ} (h : okB n l) (hn : 200 < n) (hq : q ≤ 40) (hlen : l.length ≤ 200) (hT : T.length = 1600) (ht : ∀ b, b ∈ l → tri 40 b) :
    triple_Passes_l6 n (q : Int) l T (q : Int) 0 0 k0 = k0 (total T q l : Int) := by
  unfold triple_Passes_l6
  refine (iter_range q (fun j (s : Int) => (s, (j : Int))) (fun j s nx => triple_Passes_s6 n (q : Int) l T (q : Int) s (j : Int) (fun a _ => nx a) k0) k0 ?_ ?_ n 0 0 (Nat.zero_le _) (by omega)).trans ?_
  · intro j s nx hj
    unfold triple_Passes_s6
    have hj' : (j : Int) < (q : Int) := by omega
    rw [brO_pos hj', brO_pos hj', w64s (by omega)]
  · intro s nx
    unfold triple_Passes_s6
    rw [brO_neg (by omega)]
  · rw [Nat.sub_zero]
    have hfl : ∀ v : Int, (l.filter fun b => decide (v ∈ b)).length ≤ 200 := fun v => Nat.le_trans (List.length_filter_le _ _) hlen
    have := foldO_rsum (ρ := ρ) (F := fun j s nx => triple_Passes_s6 n (q : Int) l T (q : Int) s (j : Int) (fun a _ => nx a) k0) (k := k0) (fun v => pairS (l.filter fun b => decide ((v : Int) ∈ b)) (mm T v)) 80000 100000000 q 0 0 (by omega) (fun v _ _ => pairS_le (mm_le T v) (hfl v)) ?_
    · simp only [Nat.zero_add] at this
      exact this
    · intro v c nx _ hv hc
      unfold triple_Passes_s6
      rw [brO_pos (by omega), ps_l10 h hlen]
      rw [ps_l16 hn hT (fun c hc => by
        rw [List.mem_filter] at hc
        exact ⟨ht c hc.1, by simpa using hc.2⟩) (hfl v) (by omega)]
theorem Passes_eq {n q : Nat} {l : List (List Int)} (h : okB n l) (hn : 200 < n) : ∃ c : Int, triple_Passes n (q : Int) l = some (c, tfault q l) ∧ (tfault q l ≠ 0 → c = 0) ∧ (tfault q l = 0 → ∃ T, Rep l T ∧ c = ((total T q l / 6 : Nat) : Int)) := by
  have hzz : (List.replicate 1600 (0 : Int)).length = 1600 := List.length_replicate ..
  obtain ⟨T, e1, hT, hR⟩ := open_eq (p := (q : Int)) h (by omega)
  unfold triple_Passes
  rw [e1, bnd_sm]
  simp only
  rw [chk_T, chk_pos hT, chk_pos hzz, brO_if]
  by_cases h0 : tfault q l = 0
  · have hd : dck q l = 0 := by
      unfold tfault at h0
      split at h0
      · assumption
      · exact h0
    have h3 : len3 l = true := by
      unfold tfault at h0
      rw [if_pos hd] at h0
      split at h0
      · assumption
      · omega
    obtain ⟨q1, q2, q3⟩ := dck_zero hd
    have ht := tri_of hd h3
    rw [if_neg (by simp [h0]), ps_l6 h hn (by omega) q3 hT (fun b hb => tri_mono (ht b hb) q2)]
    have hb : (total T q l) ≤ 40 * 80000 := by
      have := S_le q (f := fun v => pairS (l.filter fun b => decide ((v : Int) ∈ b)) (mm T v)) (g := fun _ => 80000) fun v _ => pairS_le (mm_le T v) (Nat.le_trans (List.length_filter_le _ _) q3)
      rw [S_const] at this
      have h' : q * 80000 ≤ 40 * 80000 := Nat.mul_le_mul_right _ (by omega)
      exact Nat.le_trans this h'
    have ew : IntKind.i64.wrap (((total T q l : Nat) : Int).tdiv 6) = ((total T q l / 6 : Nat) : Int) := by
      rw [Int.tdiv_eq_ediv_of_nonneg (by omega), w64 (by omega)]
      omega
    refine ⟨_, by rw [ew, h0], fun h => (h h0).elim, fun _ => ⟨T, hR h0, rfl⟩⟩
  · rw [if_pos (by simpa using h0)]
    exact ⟨0, rfl, fun _ => rfl, fun h => (h0 h).elim⟩
end
end Go.Gl
