/-
  L41: the search that adds blocks, step by step (the models of grow and try).
  Conditions: none; plain laws.
-/
import Derived.Test.YtjneiglpfdkehaaDoorL40
namespace Go.Gl
open Go Go.Gx Go.Gm
section
variable {ρ : Type}
theorem rep_cell {v : Nat} {l : List (List Int)} {T : List Int} (hR : Rep l T) (h : Part v l) (hv : v ≤ 40) {p q : Nat} (hp : p < v) (hq : q < v) (hpq : p ≠ q) : ∃ b : Int, T[(0 + (p * 40)) + (q * 1)]? = some b ∧ (b < 0 ↔ cnt p q l = 0) := by
  have hg := hR.get p q ⟨by omega, by omega⟩ ⟨by omega, by omega⟩ (by omega)
  refine ⟨valS l p q, by simpa [ix] using hg, ?_⟩
  by_cases hc : cnt p q l = 0
  · have := valS_neg (l := l) (cnt_zero.1 hc)
    rw [this]
    exact ⟨fun _ => hc, fun _ => by omega⟩
  · have : ∃ b, b ∈ l ∧ (p : Int) ∈ b ∧ (q : Int) ∈ b := Classical.byContradiction fun hn => hc (cnt_zero.2 fun b hb hh => hn ⟨b, hb, hh⟩)
    have := (valS_pos (fun b hb => tri_mono (h.tri b hb) (by omega)) (show (p : Int) ≠ q by omega) this).1
    exact ⟨fun h => by omega, fun h => (hc h).elim⟩
theorem set6 {α : Type} (T : List α) {a b c d e f : Nat} (x y z : α) (bd : b ≠ d) (bc : b ≠ c) (bf : b ≠ f) (be : b ≠ e) (cd : c ≠ d) (ef : e ≠ f) :
    (((((T.set a x).set b y).set c z).set d x).set e y).set f z = (((((T.set a x).set d x).set c z).set f z).set e y).set b y := by
  rw [List.set_comm (l := ((T.set a x).set b y)) z x cd, List.set_comm (l := (T.set a x)) y x bd, List.set_comm (l := ((T.set a x).set d x)) y z bc,
    List.set_comm (l := (((T.set a x).set d x).set c z)) y y be, List.set_comm (l := ((((T.set a x).set d x).set c z).set e y)) y z bf, List.set_comm (l := (((T.set a x).set d x).set c z)) y z ef]
/-- The table, with a block more. -/
def T6 (T : List Int) (p q r : Nat) : List Int := (((((T.set ((0 + (p * 40)) + (q * 1)) (r : Int)).set ((0 + (p * 40)) + (r * 1)) (q : Int)).set ((0 + (q * 40)) + (r * 1)) (p : Int)).set ((0 + (q * 40)) + (p * 1)) (r : Int)).set ((0 + (r * 40)) + (p * 1)) (q : Int)).set ((0 + (r * 40)) + (q * 1)) (p : Int)
theorem T6_len (T : List Int) (p q r : Nat) : (T6 T p q r).length = T.length := by simp [T6]
theorem blockT_of {x y z : Int} {T T' : List Int} (h : blockT [x, y, z] T = some T') : T' = (((((T.set (ix x y) z).set (ix y x) z).set (ix y z) x).set (ix z y) x).set (ix z x) y).set (ix x z) y := by
  have put : ∀ {p q r : Int} {T T' : List Int}, putT p q r T = some T' → T' = (T.set (ix p q) r).set (ix q p) r := by
    intro p q r T T' h
    unfold putT at h
    split at h
    · split at h
      · cases h
      · cases h; rfl
    · cases h
  unfold blockT at h
  simp only at h
  split at h
  · rename_i T1 h1
    split at h
    · rename_i T2 h2
      rw [put h, put h2, put h1]
    · cases h
  · cases h
theorem rep_snoc {v : Nat} {l : List (List Int)} {T : List Int} (hR : Rep l T) (h : Part v l) (hv : v ≤ 40) {p q r : Nat} (h1 : p < q) (h2 : q < r) (h3 : r < v) (c1 : cnt p q l = 0) (c2 : cnt p r l = 0) (c3 : cnt q r l = 0) :
    Rep (l ++ [[(p : Int), (q : Int), (r : Int)]]) (T6 T p q r) := by
  have hb : tri 40 [(p : Int), (q : Int), (r : Int)] := ⟨p, q, r, rfl, by omega, by omega, by omega, by omega⟩
  obtain ⟨T', hT, hR'⟩ := (block_ok hR (fun b hb => tri_mono (h.tri b hb) (by omega)) hb).1 (by
    rintro c hc ⟨u, w, huw, hu, hw, hu', hw'⟩
    rw [mem3] at hu hw
    have k1 := cnt_zero.1 c1 c hc
    have k2 := cnt_zero.1 c2 c hc
    have k3 := cnt_zero.1 c3 c hc
    rcases hu with rfl | rfl | rfl <;> rcases hw with rfl | rfl | rfl <;> first | exact huw rfl | exact k1 ⟨hu', hw'⟩ | exact k1 ⟨hw', hu'⟩ | exact k2 ⟨hu', hw'⟩ | exact k2 ⟨hw', hu'⟩ | exact k3 ⟨hu', hw'⟩ | exact k3 ⟨hw', hu'⟩)
  rw [blockT_of hT] at hR'
  unfold T6
  have e := set6 T (a := (0 + (p * 40)) + (q * 1)) (b := (0 + (p * 40)) + (r * 1)) (c := (0 + (q * 40)) + (r * 1)) (d := (0 + (q * 40)) + (p * 1)) (e := (0 + (r * 40)) + (p * 1)) (f := (0 + (r * 40)) + (q * 1)) (r : Int) (q : Int) (p : Int) (by omega) (by omega) (by omega) (by omega) (by omega) (by omega)
  rw [e]
  simpa [ix] using hR'

abbrev GR := List (List Int) → Int → List Int → Int → Int → Option (Bool × (List (List Int)) × Int × (List Int))
/-- A third point that may come next. -/
def okR (l : List (List Int)) (p q r : Nat) : Bool := cnt p r l == 0 && cnt q r l == 0
/-- The first answer along some numbers. -/
def scanR (ok : Nat → Bool) (o : Nat → Option (List (List Int))) : List Nat → Option (List (List Int))
  | [] => none
  | r :: rs => if ok r = true then (match o r with | some x => some x | none => scanR ok o rs) else scanR ok o rs
/-- One thing holds of an answer, another where there is none. -/
def Ans {α : Type} (out : Option α) (P : α → Prop) (Q : Prop) : Prop := (∀ x, out = some x → P x) ∧ (out = none → Q)
theorem Ans.of_some {α : Type} {x : α} {P : α → Prop} {Q : Prop} (h : P x) : Ans (some x) P Q := ⟨fun y hy => by cases hy; exact h, fun h => by cases h⟩
theorem Ans.of_none {α : Type} {P : α → Prop} {Q : Prop} (h : Q) : Ans (none : Option α) P Q := ⟨fun _ hy => (Option.some_ne_none _ hy.symm).elim, fun _ => h⟩
theorem Ans.mono {α : Type} {out : Option α} {P P' : α → Prop} {Q Q' : Prop} (h : Ans out P Q) (hp : ∀ x, P x → P' x) (hq : Q → Q') : Ans out P' Q' := ⟨fun x hx => hp x (h.1 x hx), fun hn => hq (h.2 hn)⟩
theorem Ans.imp' {α : Type} {out : Option α} {P P' : α → Prop} {Q Q' : Prop} (h : Ans out P Q) (hp : ∀ x, out = some x → P x → P' x) (hq : Q → Q') : Ans out P' Q' := ⟨fun x hx => hp x hx (h.1 x hx), fun hn => hq (h.2 hn)⟩
/-- What the search's recursion is to give. -/
def GrowsTo (R : GR) (v : Nat) (l : List (List Int)) (p q : Nat) (out : Option (List (List Int))) : Prop := ∀ T, Rep l T → Ans out (fun l' => ∃ T', R l v T p q = some (true, l', (v : Int), T')) (R l v T p q = some (false, l, (v : Int), T))
theorem sort_three {p q r : Nat} (h1 : p < q) (h2 : q < r) : sortI [(p : Int), (q : Int), (r : Int)] = [(p : Int), (q : Int), (r : Int)] :=
  (sortI_unique (List.Perm.refl _) (by simp; omega)).symm
theorem tr_step {n : Nat} {R : GR} {v p q r : Nat} {l : List (List Int)} {T : List Int} {out : Option (List (List Int))} (hR : Rep l T) (h : Part v l) (hv : v ≤ 9) (h1 : p < q) (h2 : q < r) (h3 : r < v) (c1 : cnt p q l = 0)
    (ho : okR l p q r = true → GrowsTo R v (l ++ [[(p : Int), (q : Int), (r : Int)]]) p q out) (next : List (List Int) → Int → Int → Option ρ) (k0 : List (List Int) → Int → List Int → Option ρ) (k1 : List (List Int) → Int → Option ρ) :
    if okR l p q r = true then Ans out (fun l' => ∃ T', triple_system_try_s2 n R T p q l v r next k0 k1 = k0 l' v T') (triple_system_try_s2 n R T p q l v r next k0 k1 = next l v ((r + 1 : Nat) : Int))
    else triple_system_try_s2 n R T p q l v r next k0 k1 = next l v ((r + 1 : Nat) : Int) := by
  have hT : T.length = 1600 := hR.len
  have hlen := h.len
  have hl : l.length ≤ 12 := by
    have : v * (v - 1) ≤ 9 * 8 := Nat.mul_le_mul hv (by omega)
    omega
  obtain ⟨b1, e1, f1⟩ := rep_cell hR h (by omega) (show p < v by omega) h3 (by omega)
  obtain ⟨b2, e2, f2⟩ := rep_cell hR h (by omega) (show q < v by omega) h3 (by omega)
  have start : triple_system_try_s2 n R T p q l v r next k0 k1 = brO (decide (b1 ≥ 0)) (next l v ((r + 1 : Nat) : Int)) (brO (decide (b2 ≥ 0)) (next l v ((r + 1 : Nat) : Int))
      (bnd (R (l ++ [[(p : Int), (q : Int), (r : Int)]]) v (T6 T p q r) p q) fun z4' => brO z4'.1 (k0 z4'.2.1 z4'.2.2.1 z4'.2.2.2) (
          chk ((l.length : Int) ≤ (z4'.2.1.length : Int)) <| chk (z4'.2.2.2.length = 1600) <| next (z4'.2.1.take l.length) z4'.2.2.1 ((r + 1 : Nat) : Int)))) := by
    unfold triple_system_try_s2
    have z16 : (List.replicate 1600 (0 : Int)).length = 1600 := List.length_replicate ..
    simp (disch := omega) only [brO_pos, chk_pos, Int.toNat_natCast, e1, e2, bnd_sm, w64s, List.length_set, hT]
    rw [add_eq (by omega), bnd_sm, sort_three h1 h2]
    simp (disch := omega) only [chk_pos]
    rfl
  rw [start]
  unfold okR
  simp only [Bool.and_eq_true, beq_iff_eq]
  by_cases g1 : cnt p r l = 0
  · by_cases g2 : cnt q r l = 0
    · rw [if_pos ⟨g1, g2⟩, brO_neg (by have := f1.2 g1; omega), brO_neg (by have := f2.2 g2; omega)]
      have hg := ho (by simp [okR, g1, g2]) (T6 T p q r) (rep_snoc hR h (by omega) h1 h2 h3 c1 g1 g2)
      refine hg.mono ?_ ?_
      · rintro l' ⟨T', hg⟩
        exact ⟨T', by rw [hg]; rfl⟩
      · intro hg
        rw [hg, bnd_sm]
        simp only [brO_ff]
        rw [chk_pos (by simp; omega), chk_pos (by rw [T6_len]; exact hT)]
        simp
    · rw [if_neg (fun hh => g2 hh.2), brO_neg (by have := f1.2 g1; omega), brO_pos (by have := mt f2.1 g2; omega)]
  · rw [if_neg (fun hh => g1 hh.1), brO_pos (by have := mt f1.1 g1; omega)]
theorem tr_loop {n : Nat} {R : GR} {v p q : Nat} {l : List (List Int)} {T : List Int} {o : Nat → Option (List (List Int))} (hR : Rep l T) (h : Part v l) (hv : v ≤ 9) (h1 : p < q) (c1 : cnt p q l = 0)
    (ho : ∀ r, q < r → r < v → okR l p q r = true → GrowsTo R v (l ++ [[(p : Int), (q : Int), (r : Int)]]) p q (o r)) (k0 : List (List Int) → Int → List Int → Option ρ) (k1 : List (List Int) → Int → Option ρ) :
    ∀ (d m r : Nat), r + d = v → q < r → d < m →
    Ans (scanR (okR l p q) o (List.range' r d)) (fun l' => ∃ T', iterM (fun (s : (List (List Int)) × Int × Int) nx => triple_system_try_s2 n R T p q s.1 s.2.1 s.2.2 (fun a0 a1 a2 => nx (a0, a1, a2)) k0 k1) m (l, (v : Int), (r : Int)) = k0 l' v T')
      (iterM (fun (s : (List (List Int)) × Int × Int) nx => triple_system_try_s2 n R T p q s.1 s.2.1 s.2.2 (fun a0 a1 a2 => nx (a0, a1, a2)) k0 k1) m (l, (v : Int), (r : Int)) = k1 l v)
  | 0, m, r, hd, hr, hm => by
    obtain ⟨m, rfl⟩ : ∃ k, m = k + 1 := ⟨m - 1, by omega⟩
    refine Ans.of_none ?_
    rw [iterM_succ]
    unfold triple_system_try_s2
    rw [brO_neg (show ¬ ((r : Int) < (v : Int)) by omega)]
  | d + 1, m, r, hd, hr, hm => by
    obtain ⟨m, rfl⟩ : ∃ k, m = k + 1 := ⟨m - 1, by omega⟩
    have st := tr_step (n := n) (ρ := ρ) hR h hv h1 hr (show r < v by omega) c1 (ho r hr (by omega)) (fun a0 a1 a2 => iterM (fun (s : (List (List Int)) × Int × Int) nx => triple_system_try_s2 n R T p q s.1 s.2.1 s.2.2 (fun a0 a1 a2 => nx (a0, a1, a2)) k0 k1) m (a0, a1, a2)) k0 k1
    have ih := tr_loop (n := n) hR h hv h1 c1 ho k0 k1 d m (r + 1) (by omega) (by omega) (by omega)
    rw [List.range'_succ]
    unfold scanR
    by_cases hok : okR l p q r = true
    · rw [if_pos hok] at st
      simp only [hok, if_true]
      cases hor : o r with
      | some l' => exact Ans.of_some (st.1 l' hor)
      | none =>
        have h2 := st.2 hor
        exact ih.mono (fun x ⟨T', hx⟩ => ⟨T', Eq.trans h2 hx⟩) (fun hx => Eq.trans h2 hx)
    · rw [if_neg hok] at st
      simp only [hok, Bool.false_eq_true, if_false]
      exact ih.mono (fun x ⟨T', hx⟩ => ⟨T', Eq.trans st hx⟩) (fun hx => Eq.trans st hx)
/-- What the search answers where this pair is the first that lies in no block. -/
theorem try_eq {n : Nat} {R : GR} {v p q : Nat} {l : List (List Int)} {T : List Int} {o : Nat → Option (List (List Int))} (hR : Rep l T) (h : Part v l) (hv : v ≤ 9) (h1 : p < q) (h2 : q < v) (c1 : cnt p q l = 0) (hn : 9 < n)
    (ho : ∀ r, q < r → r < v → okR l p q r = true → GrowsTo R v (l ++ [[(p : Int), (q : Int), (r : Int)]]) p q (o r)) :
    Ans (scanR (okR l p q) o (List.range' (q + 1) (v - (q + 1)))) (fun l' => ∃ T', triple_system_try n R l v T p q = some (true, l', (v : Int), T'))
      (triple_system_try n R l v T p q = some (false, l, (v : Int), T)) := by
  unfold triple_system_try triple_system_try_l2
  rw [w64s (by omega)]
  exact tr_loop (n := n) hR h hv h1 c1 ho (fun x5' x6' x7' => some (true, x5', x6', x7')) (fun x8' x9' => some (false, x8', x9', T)) (v - (q + 1)) n (q + 1) (by omega) (by omega) (by omega)
/-! ### To the first pair -/
theorem gr_step {n : Nat} {R : GR} {v p q : Nat} {l : List (List Int)} {T : List Int} (hR : Rep l T) (h : Part v l) (hv : v ≤ 9) (h1 : p < q) (h2 : q < v) (next : Int → Option ρ) (k0 : Bool → List (List Int) → Int → List Int → Option ρ) (k1 : Option ρ) :
    triple_system_grow_s3 n R l v T p q next k0 k1 = if cnt p q l = 0 then bnd (triple_system_try n R l v T p q) fun z => k0 z.1 z.2.1 z.2.2.1 z.2.2.2 else next ((q + 1 : Nat) : Int) := by
  obtain ⟨b1, e1, f1⟩ := rep_cell hR h (by omega) (show p < v by omega) h2 (by omega)
  unfold triple_system_grow_s3
  simp (disch := omega) only [brO_pos, chk_pos, Int.toNat_natCast, e1, bnd_sm, w64s]
  by_cases g : cnt p q l = 0
  · rw [if_pos g, brO_pos (by have := f1.2 g; omega)]
  · rw [if_neg g, brO_neg (by have := mt f1.1 g; omega)]
theorem gr_row {n : Nat} {R : GR} {v p : Nat} {l : List (List Int)} {T : List Int} (hR : Rep l T) (h : Part v l) (hv : v ≤ 9) (k0 : Bool → List (List Int) → Int → List Int → Option ρ) (k1 : Option ρ) :
    ∀ (d m q : Nat), v ≤ q + d → p < q → d < m →
    ((∀ q', q ≤ q' → q' < v → cnt p q' l ≠ 0) → iterM (fun (s : Int) nx => triple_system_grow_s3 n R l v T p s nx k0 k1) m (q : Int) = k1) ∧
    (∀ q', q ≤ q' → q' < v → cnt p q' l = 0 → (∀ q'', q ≤ q'' → q'' < q' → cnt p q'' l ≠ 0) → iterM (fun (s : Int) nx => triple_system_grow_s3 n R l v T p s nx k0 k1) m (q : Int) = bnd (triple_system_try n R l v T p q') fun z => k0 z.1 z.2.1 z.2.2.1 z.2.2.2)
  | 0, m, q, hd, hpq, hm => by
    obtain ⟨m, rfl⟩ : ∃ k, m = k + 1 := ⟨m - 1, by omega⟩
    refine ⟨fun _ => ?_, fun q' g1 g2 => by omega⟩
    show triple_system_grow_s3 n R l v T p q _ k0 k1 = k1
    unfold triple_system_grow_s3
    rw [brO_neg (by omega)]
  | d + 1, m, q, hd, hpq, hm => by
    obtain ⟨m, rfl⟩ : ∃ k, m = k + 1 := ⟨m - 1, by omega⟩
    obtain ⟨ih1, ih2⟩ := gr_row (n := n) (R := R) (p := p) hR h hv k0 k1 d m (q + 1) (by omega) (by omega) (by omega)
    by_cases hq : q < v
    · have st := gr_step (n := n) (R := R) hR h hv hpq hq (iterM (fun (s : Int) nx => triple_system_grow_s3 n R l v T p s nx k0 k1) m) k0 k1
      constructor
      · intro hc
        refine st.trans ?_
        rw [if_neg (hc q (Nat.le_refl _) hq)]
        exact ih1 fun q' g1 g2 => hc q' (by omega) g2
      · intro q' g1 g2 g3 g4
        refine st.trans ?_
        by_cases e : q' = q
        · subst e; rw [if_pos g3]
        · rw [if_neg (g4 q (Nat.le_refl _) (by omega))]
          exact ih2 q' (by omega) g2 g3 fun q'' g5 g6 => g4 q'' (by omega) g6
    · refine ⟨fun _ => ?_, fun q' g1 g2 => by omega⟩
      show triple_system_grow_s3 n R l v T p q _ k0 k1 = k1
      unfold triple_system_grow_s3
      rw [brO_neg (by omega)]
theorem gr_all {n : Nat} {R : GR} {v : Nat} {l : List (List Int)} {T : List Int} (hR : Rep l T) (h : Part v l) (hv : v ≤ 9) (hn : 12 < n) (k0 : Bool → List (List Int) → Int → List Int → Option ρ) (k1 : Option ρ) :
    ∀ (d m p q : Nat), v ≤ p + d → p < q → d < m → AllBef v l p q →
    ((∀ p' q' : Nat, p' < q' → q' < v → cnt p' q' l ≠ 0) → iterM (fun (s : Int × Int) nx => triple_system_grow_s1 n R l v T s.1 s.2 (fun a0 a1 => nx (a0, a1)) k0 k1) m ((p : Int), (q : Int)) = k1) ∧
    (∀ p' q', Fst v l p' q' → iterM (fun (s : Int × Int) nx => triple_system_grow_s1 n R l v T s.1 s.2 (fun a0 a1 => nx (a0, a1)) k0 k1) m ((p : Int), (q : Int)) = bnd (triple_system_try n R l v T p' q') fun z => k0 z.1 z.2.1 z.2.2.1 z.2.2.2)
  | d, m, p, q, hd, hpq, hm, hb => by
    obtain ⟨m, rfl⟩ : ∃ k, m = k + 1 := ⟨m - 1, by omega⟩
    by_cases hp : p < v
    · match d, hd, hm with
      | 0, hd, _ => omega
      | d + 1, hd, hm =>
      have st : iterM (fun (s : Int × Int) nx => triple_system_grow_s1 n R l v T s.1 s.2 (fun a0 a1 => nx (a0, a1)) k0 k1) (m + 1) ((p : Int), (q : Int)) =
          iterM (fun (s : Int) nx => triple_system_grow_s3 n R l v T p s nx k0 (iterM (fun (s : Int × Int) nx => triple_system_grow_s1 n R l v T s.1 s.2 (fun a0 a1 => nx (a0, a1)) k0 k1) m (((p + 1 : Nat) : Int), ((p + 2 : Nat) : Int)))) n (q : Int) := by
        rw [iterM_succ]
        unfold triple_system_grow_s1
        rw [brO_pos (show (p : Int) < (v : Int) by omega), w64s (by omega), w64 (by omega)]
        rfl
      obtain ⟨r1, r2⟩ := gr_row (n := n) (R := R) (p := p) hR h hv k0 (iterM (fun (s : Int × Int) nx => triple_system_grow_s1 n R l v T s.1 s.2 (fun a0 a1 => nx (a0, a1)) k0 k1) m (((p + 1 : Nat) : Int), ((p + 2 : Nat) : Int))) v n q (by omega) hpq (by omega)
      constructor
      · intro hc
        rw [st, r1 (fun q' _ g2 => hc p q' (by omega) g2)]
        refine (gr_all (n := n) (R := R) hR h hv hn k0 k1 d m (p + 1) (p + 2) (by omega) (by omega) (by omega) (fun p' q' g1 g2 g3 => hc p' q' g1 g2)).1 hc
      · intro p' q' hf
        have hge : p < p' ∨ (p = p' ∧ q ≤ q') := by
          rcases Nat.lt_trichotomy p p' with g | g | g
          · exact .inl g
          · refine .inr ⟨g, ?_⟩
            rcases Nat.lt_or_ge q' q with g' | g'
            · exact (hb p' q' hf.pq hf.qv (.inr ⟨g.symm, g'⟩) hf.unc).elim
            · exact g'
          · exact (hb p' q' hf.pq hf.qv (.inl g) hf.unc).elim
        rcases hge with hlt | ⟨rfl, hqq⟩
        · have hrow : ∀ q'', p < q'' → q'' < v → cnt p q'' l ≠ 0 := fun q'' g1 g2 => hf.bef p q'' g1 g2 (.inl hlt)
          rw [st, r1 (fun q'' g1 g2 => hrow q'' (by omega) g2)]
          refine (gr_all (n := n) (R := R) hR h hv hn k0 k1 d m (p + 1) (p + 2) (by omega) (by omega) (by omega) ?_).2 p' q' hf
          intro p2 q2 g1 g2 g3
          rcases g3 with g3 | ⟨rfl, g3⟩
          · rcases Nat.lt_or_ge p2 p with g4 | g4
            · exact hb p2 q2 g1 g2 (.inl g4)
            · have : p2 = p := by omega
              subst this
              exact hrow q2 g1 g2
          · omega
        · rw [st]
          exact r2 q' hqq hf.qv hf.unc fun q'' g1 g2 => hf.bef p q'' (by omega) (by have := hf.qv; omega) (.inr ⟨rfl, g2⟩)
    · refine ⟨fun _ => ?_, fun p' q' hf => ?_⟩
      · rw [iterM_succ]
        unfold triple_system_grow_s1
        rw [brO_neg (show ¬ ((p : Int) < (v : Int)) by omega)]
      · have h1 := hf.pq
        have h2 := hf.qv
        exact (hb p' q' h1 h2 (.inl (by omega)) hf.unc).elim
/-- One round of the search, where all pairs before (p, q) lie in blocks. -/
theorem grow_full {n : Nat} {R : GR} {v p q : Nat} {l : List (List Int)} {T : List Int} (hR : Rep l T) (h : Part v l) (hv : v ≤ 9) (hn : 12 < n) (hpq : p < q) (hb : AllBef v l p q) (hc : ∀ p' q' : Nat, p' < q' → q' < v → cnt p' q' l ≠ 0) :
    triple_system_grow_b n R l v T p q = some (true, l, (v : Int), T) :=
  (gr_all (n := n) (R := R) hR h hv hn (fun x7' x8' x9' x10' => some (x7', x8', x9', x10')) (some (true, l, (v : Int), T)) v n p q (by omega) hpq (by omega) hb).1 hc
theorem grow_first {n : Nat} {R : GR} {v p q p' q' : Nat} {l : List (List Int)} {T : List Int} (hR : Rep l T) (h : Part v l) (hv : v ≤ 9) (hn : 12 < n) (hpq : p < q) (hb : AllBef v l p q) (hf : Fst v l p' q') :
    triple_system_grow_b n R l v T p q = triple_system_try n R l v T p' q' := by
  refine ((gr_all (n := n) (R := R) hR h hv hn (fun x7' x8' x9' x10' => some (x7', x8', x9', x10')) (some (true, l, (v : Int), T)) v n p q (by omega) hpq (by omega) hb).2 p' q' hf).trans ?_
  cases triple_system_try n R l v T p' q' <;> rfl
end
end Go.Gl
