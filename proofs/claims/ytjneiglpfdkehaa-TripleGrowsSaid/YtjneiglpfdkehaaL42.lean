/-
  L42: the document's search that adds blocks, step by step.
  Conditions: none; plain laws.
-/
import Derived.Test.YtjneiglpfdkehaaL41
namespace Go.Gl
open Go Go.Gx Go.Gm
section
variable {ρ : Type}
abbrev NR := Int → List (List Int) → Int → Int → Int → Option ((List (List Int)) × Bool)
theorem fold_all {α : Type} (f : α → Bool) (k : Bool → Option ρ) : ∀ (l : List α) (s : Bool), foldO (fun b s nx => brO s (nx (f b)) (k s)) k l s = k (s && l.all f)
  | [], s => by simp [foldO_nil]
  | b :: l, s => by
    rw [foldO_cons]
    cases s with
    | false => simp [brO_ff]
    | true => rw [brO_tt, fold_all f k l]; simp
theorem fold_any {α : Type} (f : α → Bool) (k : Bool → Option ρ) : ∀ (l : List α) (s : Bool), foldO (fun b s nx => nx (s || f b)) k l s = k (s || l.any f)
  | [], s => by simp [foldO_nil]
  | b :: l, s => by
    rw [foldO_cons, fold_any f k l]
    simp [Bool.or_assoc]
theorem gn_l12 {n : Nat} {R : NR} {x : Int} {l : List (List Int)} {t2 t3 t4 : Int} {t : List Int} (hl : l.length ≤ 1000) (hb : ∀ b, b ∈ l → b.length = 3) (ht : t.length = 3) (hn : 1000 < n) (k0 : Bool → Option ρ) :
    ref2_grown_l12 n R x l t2 t3 t4 t true 0 k0 = k0 (l.all fun b => decide ((tog b t : Int) < 2)) := by
  unfold ref2_grown_l12
  refine (iter_list l (fun i (s : Bool) => (s, (i : Int))) (fun b s nx => brO s (nx (decide ((tog b t : Int) < 2))) (k0 s)) k0 ?_ ?_ n 0 true (Nat.zero_le _) (by omega)).trans ?_
  · intro i s nx hi
    have h3 : l[i].length = 3 := hb _ (List.getElem_mem ..)
    unfold ref2_grown_s12
    simp (disch := omega) only [brO_pos, chk_pos, bnd_get, Int.toNat_natCast, w64s]
    rw [Together_eq (by omega) (by omega) (by omega) (by omega), bnd_sm]
  · intro s nx
    unfold ref2_grown_s12
    rw [brO_neg (by omega)]
  · rw [List.drop_zero, fold_all, Bool.true_and]
theorem gn_l24 {n : Nat} {R : NR} {x : Int} {l : List (List Int)} {a b : Int} (hl : l.length ≤ 1000) (hb : ∀ b, b ∈ l → b.length = 3) (hn : 1000 < n) (k0 : Bool → Option ρ) :
    ref2_grown_l24 n R x l a b false 0 k0 = k0 (l.any (two a b)) := by
  unfold ref2_grown_l24
  refine (iter_list l (fun i (s : Bool) => (s, (i : Int))) (fun c s nx => nx (s || two a b c)) k0 ?_ ?_ n 0 false (Nat.zero_le _) (by omega)).trans ?_
  · intro i s nx hi
    have h3 : l[i].length = 3 := hb _ (List.getElem_mem ..)
    unfold ref2_grown_s24
    simp (disch := omega) only [brO_pos, chk_pos, bnd_get, Int.toNat_natCast, w64s]
    rw [Lies_eq (by omega) (by omega), bnd_sm, Lies_eq (by omega) (by omega), bnd_sm]
    unfold two
    cases s with
    | true => simp [brO_tt]
    | false => cases decide (a ∈ l[i]) <;> simp [brO_tt, brO_ff]
  · intro s nx
    unfold ref2_grown_s24
    rw [brO_neg (by omega)]
  · rw [List.drop_zero, fold_any, Bool.false_or]
theorem any_two {x y : Int} {l : List (List Int)} : l.any (two x y) = !(cnt x y l == 0) := by
  cases h : (cnt x y l == 0) with
  | true =>
    have h := cnt_zero.1 (by simpa using h)
    simp only [Bool.not_true]
    rw [List.any_eq_false]
    intro b hb ht
    exact h b hb (two_iff.1 ht)
  | false =>
    have h : cnt x y l ≠ 0 := by simpa using h
    have : ∃ b, b ∈ l ∧ x ∈ b ∧ y ∈ b := Classical.byContradiction fun hn => h (cnt_zero.2 fun b hb hh => hn ⟨b, hb, hh⟩)
    obtain ⟨b, hb, hh⟩ := this
    simp only [Bool.not_false]
    exact List.any_eq_true.2 ⟨b, hb, two_iff.2 hh⟩
/-- What the recursion is to give. -/
def GrownTo (R : NR) (v : Nat) (l : List (List Int)) (p q r : Nat) (out : Option (List (List Int))) : Prop := Ans out (fun l' => R v l p q r = some (l', true)) (R v l p q r = some ([], false))
structure Bnd (v : Nat) (l : List (List Int)) (n : Nat) : Prop where
  part : Part v l
  v9 : v ≤ 9
  n1 : 1000 < n
theorem Bnd.len {v n : Nat} {l : List (List Int)} (h : Bnd v l n) : l.length ≤ 12 := by
  have h1 := h.part.len
  have h2 := h.v9
  have : v * (v - 1) ≤ 9 * 8 := Nat.mul_le_mul h2 (by omega)
  omega
theorem Bnd.three {v n : Nat} {l : List (List Int)} (h : Bnd v l n) : ∀ b, b ∈ l → b.length = 3 := by
  intro b hb
  obtain ⟨x, y, z, rfl, _⟩ := h.part.tri b hb
  rfl
theorem gn_step {n : Nat} {R : NR} {v p q r : Nat} {l : List (List Int)} (h : Bnd v l n) (h1 : p < q) (h2 : q < r) (h3 : r < v) (next : Int → Option ρ) (k0 : List (List Int) → Option ρ) (k1 : Option ρ) :
    ref2_grown_s7 n R v l p q r next k0 k1 = if cnt p q l = 0 ∧ okR l p q r = true then bnd (R v (l ++ [[(p : Int), (q : Int), (r : Int)]]) p q ((r + 1 : Nat) : Int)) fun z => brO z.2 (k0 z.1) (next ((r + 1 : Nat) : Int)) else next ((r + 1 : Nat) : Int) := by
  have hl := h.len
  have hv := h.v9
  have hn := h.n1
  unfold ref2_grown_s7
  simp (disch := omega) only [brO_pos]
  rw [gn_l12 (by omega) h.three rfl hn, w64s (by omega)]
  have e := all_tog h.part.tri h1 h2
  unfold okR
  simp only [Bool.and_eq_true, beq_iff_eq]
  by_cases g : cnt p q l = 0 ∧ cnt p r l = 0 ∧ cnt q r l = 0
  · rw [if_pos g, e.2 g]
    simp only [Bool.not_true, brO_ff, List.nil_append]
    rw [chk_pos trivial, chk_pos (by omega), chk_pos trivial, chk_pos (by simp; omega)]
  · rw [if_neg g, Bool.eq_false_iff.2 (fun hh => g (e.1 hh))]
    rfl
theorem gn_skip {n : Nat} {R : NR} {v p q : Nat} {l : List (List Int)} (h : Bnd v l n) (h1 : p < q) (hc : cnt p q l ≠ 0) (k0 : List (List Int) → Option ρ) (k1 : Option ρ) :
    ∀ (d m r : Nat), v ≤ r + d → q < r → d < m → iterM (fun (s : Int) nx => ref2_grown_s7 n R v l p q s nx k0 k1) m (r : Int) = k1
  | d, m, r, hd, hr, hm => by
    obtain ⟨m, rfl⟩ : ∃ k, m = k + 1 := ⟨m - 1, by omega⟩
    rw [iterM_succ]
    by_cases hv : r < v
    · match d, hd, hm with
      | 0, hd, _ => omega
      | d + 1, hd, hm =>
        rw [gn_step h h1 hr hv, if_neg (fun hh => hc hh.1)]
        exact gn_skip h h1 hc k0 k1 d m (r + 1) (by omega) (by omega) (by omega)
    · unfold ref2_grown_s7
      rw [brO_neg (by omega)]
theorem gn_loop {n : Nat} {R : NR} {v p q : Nat} {l : List (List Int)} {o : Nat → Option (List (List Int))} (h : Bnd v l n) (h1 : p < q) (hc : cnt p q l = 0)
    (ho : ∀ r, q < r → r < v → okR l p q r = true → GrownTo R v (l ++ [[(p : Int), (q : Int), (r : Int)]]) p q (r + 1) (o r)) (k0 : List (List Int) → Option ρ) (k1 : Option ρ) :
    ∀ (d m r : Nat), r + d = v → q < r → d < m → Ans (scanR (okR l p q) o (List.range' r d)) (fun l' => iterM (fun (s : Int) nx => ref2_grown_s7 n R v l p q s nx k0 k1) m (r : Int) = k0 l') (iterM (fun (s : Int) nx => ref2_grown_s7 n R v l p q s nx k0 k1) m (r : Int) = k1)
  | 0, m, r, hd, hr, hm => by
    obtain ⟨m, rfl⟩ : ∃ k, m = k + 1 := ⟨m - 1, by omega⟩
    refine Ans.of_none ?_
    rw [iterM_succ]
    unfold ref2_grown_s7
    rw [brO_neg (by omega)]
  | d + 1, m, r, hd, hr, hm => by
    obtain ⟨m, rfl⟩ : ∃ k, m = k + 1 := ⟨m - 1, by omega⟩
    have ih := gn_loop h h1 hc ho k0 k1 d m (r + 1) (by omega) (by omega) (by omega)
    simp only [iterM_succ]
    rw [gn_step h h1 hr (by omega), List.range'_succ]
    unfold scanR
    by_cases hok : okR l p q r = true
    · rw [if_pos hok]
      simp only [if_pos (And.intro hc hok)]
      have hg := ho r hr (by omega) hok
      unfold GrownTo at hg
      cases hor : o r with
      | some l' =>
        refine Ans.of_some ?_
        rw [hg.1 l' hor]
        rfl
      | none =>
        rw [hg.2 hor]
        exact ih
    · rw [if_neg hok]
      simp only [if_neg (fun hh : cnt p q l = 0 ∧ okR l p q r = true => hok hh.2)]
      exact ih
/-- What the search comes to at the first pair that lies in no block. -/
def atFst (n : Nat) (R : NR) (v : Nat) (l : List (List Int)) (p q : Nat) (k0 k1 : List (List Int) → Option ρ) : Option ρ :=
  iterM (fun (s : Int) nx => ref2_grown_s7 n R v l p q s nx k0 (k1 [])) n ((q + 1 : Nat) : Int)
theorem gn_cell {n : Nat} {R : NR} {v p q r : Nat} {l : List (List Int)} (h : Bnd v l n) (h1 : p < q) (h2 : q < v) (h3 : q < r) (next : Int → Int → Option ρ) (k0 k1 : List (List Int) → Option ρ) (k2 : Option ρ) :
    (cnt p q l ≠ 0 → ref2_grown_s5 n R v l p q r next k0 k1 k2 = next ((q + 1 : Nat) : Int) ((q + 2 : Nat) : Int)) ∧
    (cnt p q l = 0 → r = q + 1 → ref2_grown_s5 n R v l p q r next k0 k1 k2 = atFst n R v l p q k0 k1) := by
  have hl := h.len
  have hv := h.v9
  have hn := h.n1
  have st : ref2_grown_s5 n R v l p q r next k0 k1 k2 = iterM (fun (s : Int) nx => ref2_grown_s7 n R v l p q s nx k0 (brO (!!(cnt p q l == 0)) (k1 []) (next ((q + 1 : Nat) : Int) ((q + 2 : Nat) : Int)))) n (r : Int) := by
    unfold ref2_grown_s5
    rw [brO_pos (by omega), gn_l24 (by omega) h.three hn, any_two, w64s (by omega), w64 (by omega)]
    rfl
  constructor
  · intro hc
    rw [st, gn_skip h h1 hc _ _ v n r (by omega) h3 (by omega)]
    have hb : (cnt p q l == 0) = false := by simpa using hc
    rw [hb]
    rfl
  · rintro hc rfl
    rw [st]
    unfold atFst
    simp [hc, brO_tt]
theorem gn_col {n : Nat} {R : NR} {v p : Nat} {l : List (List Int)} (h : Bnd v l n) (k0 k1 : List (List Int) → Option ρ) (k2 : Option ρ) :
    ∀ (d m q r : Nat), v ≤ q + d → p < q → q < r → d < m → (cnt p q l = 0 → r = q + 1) →
    ((∀ q', q ≤ q' → q' < v → cnt p q' l ≠ 0) → iterM (fun (s : Int × Int) nx => ref2_grown_s5 n R v l p s.1 s.2 (fun a0 a1 => nx (a0, a1)) k0 k1 k2) m ((q : Int), (r : Int)) = k2) ∧
    (∀ q', q ≤ q' → q' < v → cnt p q' l = 0 → (∀ q'', q ≤ q'' → q'' < q' → cnt p q'' l ≠ 0) → iterM (fun (s : Int × Int) nx => ref2_grown_s5 n R v l p s.1 s.2 (fun a0 a1 => nx (a0, a1)) k0 k1 k2) m ((q : Int), (r : Int)) = atFst n R v l p q' k0 k1)
  | d, m, q, r, hd, hpq, hqr, hm, hcr => by
    obtain ⟨m, rfl⟩ : ∃ k, m = k + 1 := ⟨m - 1, by omega⟩
    by_cases hq : q < v
    · match d, hd, hm with
      | 0, hd, _ => omega
      | d + 1, hd, hm =>
      obtain ⟨ih1, ih2⟩ := gn_col (R := R) (p := p) h k0 k1 k2 d m (q + 1) (q + 2) (by omega) (by omega) (by omega) (by omega) (fun _ => rfl)
      obtain ⟨c1, c2⟩ := gn_cell (R := R) h hpq hq hqr (fun a0 a1 => iterM (fun (s : Int × Int) nx => ref2_grown_s5 n R v l p s.1 s.2 (fun a0 a1 => nx (a0, a1)) k0 k1 k2) m (a0, a1)) k0 k1 k2
      constructor
      · intro hc
        exact (c1 (hc q (Nat.le_refl _) hq)).trans (ih1 fun q' g1 g2 => hc q' (by omega) g2)
      · intro q' g1 g2 g3 g4
        by_cases e : q' = q
        · subst e
          exact c2 g3 (hcr g3)
        · exact (c1 (g4 q (Nat.le_refl _) (by omega))).trans (ih2 q' (by omega) g2 g3 fun q'' g5 g6 => g4 q'' (by omega) g6)
    · refine ⟨fun _ => ?_, fun q' g1 g2 => by omega⟩
      rw [iterM_succ]
      unfold ref2_grown_s5
      rw [brO_neg (show ¬ ((q : Int) < (v : Int)) by omega)]
theorem gn_all {n : Nat} {R : NR} {v : Nat} {l : List (List Int)} (h : Bnd v l n) (k0 k1 : List (List Int) → Option ρ) (k2 : Option ρ) {p' q' : Nat} (hf : Fst v l p' q') :
    ∀ (d m p q r : Nat), v ≤ p + d → p < q → q < r → d < m → AllBef v l p q → (cnt p q l = 0 → r = q + 1) →
    iterM (fun (s : Int × Int × Int) nx => ref2_grown_s3 n R v l s.1 s.2.1 s.2.2 (fun a0 a1 a2 => nx (a0, a1, a2)) k0 k1 k2) m ((p : Int), (q : Int), (r : Int)) = atFst n R v l p' q' k0 k1
  | d, m, p, q, r, hd, hpq, hqr, hm, hb, hcr => by
    have hv := h.v9
    have hn := h.n1
    obtain ⟨m, rfl⟩ : ∃ k, m = k + 1 := ⟨m - 1, by omega⟩
    by_cases hp : p < v
    · match d, hd, hm with
      | 0, hd, _ => omega
      | d + 1, hd, hm =>
      have st : iterM (fun (s : Int × Int × Int) nx => ref2_grown_s3 n R v l s.1 s.2.1 s.2.2 (fun a0 a1 a2 => nx (a0, a1, a2)) k0 k1 k2) (m + 1) ((p : Int), (q : Int), (r : Int)) =
          iterM (fun (s : Int × Int) nx => ref2_grown_s5 n R v l p s.1 s.2 (fun a0 a1 => nx (a0, a1)) k0 k1 (iterM (fun (s : Int × Int × Int) nx => ref2_grown_s3 n R v l s.1 s.2.1 s.2.2 (fun a0 a1 a2 => nx (a0, a1, a2)) k0 k1 k2) m (((p + 1 : Nat) : Int), ((p + 2 : Nat) : Int), ((p + 3 : Nat) : Int)))) n ((q : Int), (r : Int)) := by
        rw [iterM_succ]
        unfold ref2_grown_s3
        rw [brO_pos (show (p : Int) < (v : Int) by omega), w64s (by omega), w64 (by omega), w64 (by omega)]
        rfl
      obtain ⟨r1, r2⟩ := gn_col (R := R) (p := p) h k0 k1 (iterM (fun (s : Int × Int × Int) nx => ref2_grown_s3 n R v l s.1 s.2.1 s.2.2 (fun a0 a1 a2 => nx (a0, a1, a2)) k0 k1 k2) m (((p + 1 : Nat) : Int), ((p + 2 : Nat) : Int), ((p + 3 : Nat) : Int))) v n q r (by omega) hpq hqr (by omega) hcr
      have hge : p < p' ∨ (p = p' ∧ q ≤ q') := by
        rcases Nat.lt_trichotomy p p' with g | g | g
        · exact .inl g
        · refine .inr ⟨g, ?_⟩
          rcases Nat.lt_or_ge q' q with g' | g'
          · exact (hb p' q' hf.pq hf.qv (.inr ⟨g.symm, g'⟩) hf.unc).elim
          · exact g'
        · exact (hb p' q' hf.pq hf.qv (.inl g) hf.unc).elim
      rcases hge with hlt | ⟨rfl, hqq⟩
      · have hrow : ∀ q'', p < q'' → q'' < v → cnt p q'' l ≠ 0 := fun q'' g1 g2 => hf.bef p q'' g1 g2 (.inl hlt)
        rw [st, r1 (fun q'' g1 g2 => hrow q'' (by omega) g2)]
        refine gn_all h k0 k1 k2 hf d m (p + 1) (p + 2) (p + 3) (by omega) (by omega) (by omega) (by omega) ?_ (fun _ => rfl)
        intro p2 q2 g1 g2 g3
        rcases g3 with g3 | ⟨rfl, g3⟩
        · rcases Nat.lt_or_ge p2 p with g4 | g4
          · exact hb p2 q2 g1 g2 (.inl g4)
          · have : p2 = p := by omega
            subst this
            exact hrow q2 g1 g2
        · omega
      · rw [st]
        exact r2 q' hqq hf.qv hf.unc fun q'' g1 g2 => hf.bef p q'' (by omega) (by have := hf.qv; omega) (.inr ⟨rfl, g2⟩)
    · have h1 := hf.pq
      have h2 := hf.qv
      exact (hb p' q' h1 h2 (.inl (by omega)) hf.unc).elim
theorem len_wrap {v : Nat} {l : List (List Int)} {n : Nat} (h : Bnd v l n) : ((IntKind.i64.wrap ((l.length : Int) * 6)) == (IntKind.i64.wrap ((v : Int) * (IntKind.i64.wrap ((v : Int) - 1))))) = decide (6 * l.length = v * (v - 1)) := by
  have hl := h.len
  have hv := h.v9
  have h2 : v * (v - 1) ≤ 9 * 8 := Nat.mul_le_mul hv (by omega)
  have e : (v : Int) * ((v : Int) - 1) = ((v * (v - 1) : Nat) : Int) := by
    cases v with
    | zero => rfl
    | succ k => simp
  rw [w64 (x := (v : Int) - 1) (by omega), w64 (by omega), e, w64 (by omega), Bool.eq_iff_iff]
  simp only [beq_iff_eq, decide_eq_true_eq]
  omega
theorem grown_full {n : Nat} {R : NR} {v : Nat} {l : List (List Int)} (h : Bnd v l n) (p q r : Int) (hc : 6 * l.length = v * (v - 1)) : ref2_grown_b n R v l p q r = some (l, true) := by
  unfold ref2_grown_b
  rw [len_wrap h, brO_pos hc]
theorem grown_first {n : Nat} {R : NR} {v p q r p' q' : Nat} {l : List (List Int)} {o : Nat → Option (List (List Int))} (h : Bnd v l n) (hf : Fst v l p' q') (hpq : p < q) (hqr : q < r) (hb : AllBef v l p q) (hcr : cnt p q l = 0 → r = q + 1)
    (ho : ∀ r, q' < r → r < v → okR l p' q' r = true → GrownTo R v (l ++ [[(p' : Int), (q' : Int), (r : Int)]]) p' q' (r + 1) (o r)) :
    Ans (scanR (okR l p' q') o (List.range' (q' + 1) (v - (q' + 1)))) (fun l' => ref2_grown_b n R v l p q r = some (l', true)) (ref2_grown_b n R v l p q r = some ([], false)) := by
  have hv := h.v9
  have hn := h.n1
  have hnf : ¬ 6 * l.length = v * (v - 1) := fun hc => h.part.full.1 hc p' q' hf.pq hf.qv hf.unc
  have e : ref2_grown_b n R v l p q r = atFst n R v l p' q' (fun x13' => some (x13', true)) (fun x14' => some (x14', false)) := by
    unfold ref2_grown_b
    rw [len_wrap h, brO_neg hnf]
    exact gn_all h _ _ _ hf v n p q r (by omega) hpq hqr (by omega) hb hcr
  rw [e]
  have := hf.qv
  exact gn_loop h hf.pq hf.unc ho _ _ (v - (q' + 1)) n (q' + 1) (by omega) (by omega) (by omega)
end
end Go.Gl
