/-
  L4: the table of third points, and what opens a system of triples, in closed form.
  Conditions: none; plain laws.
-/
import Derived.Test.YtjneiglpfdkehaaL3
namespace Go.Gl
open Go Go.Gx Go.Gm
section
variable {ρ : Type}
/-- A cell's place. -/
def ix (p q : Int) : Nat := (0 + (p.toNat * 40)) + (q.toNat * 1)
theorem ix_lt {p q : Int} (hp : 0 ≤ p ∧ p < 40) (hq : 0 ≤ q ∧ q < 40) : ix p q < 1600 := by unfold ix; omega
def zeros : List Int := List.replicate 1600 0
def putT (p q r : Int) (T : List Int) : Option (List Int) := match T[ix p q]? with
  | some v => if v ≥ 0 then none else some ((T.set (ix p q) r).set (ix q p) r)
  | none => none
def blockT (b : List Int) (T : List Int) : Option (List Int) := match b with
  | [x, y, z] => match putT x y z T with
    | some T => match putT y z x T with
      | some T => putT z x y T
      | none => none
    | none => none
  | _ => none
def thirdT : List (List Int) → List Int → Option (List Int)
  | [], T => some T
  | b :: l, T => match blockT b T with
    | some T => thirdT l T
    | none => none
theorem putT_len {p q r : Int} {T T' : List Int} (h : putT p q r T = some T') : T'.length = T.length := by
  unfold putT at h
  split at h
  · split at h
    · cases h
    · cases h; simp
  · cases h
theorem blockT_len {b : List Int} {T T' : List Int} (h : blockT b T = some T') : T'.length = T.length := by
  unfold blockT at h
  split at h
  · split at h
    · rename_i h1
      split at h
      · rename_i h2
        rw [putT_len h, putT_len h2, putT_len h1]
      · cases h
    · cases h
  · cases h
/-- A block of three points. -/
def tri (p : Int) (b : List Int) : Prop := ∃ x y z, b = [x, y, z] ∧ 0 ≤ x ∧ x < y ∧ y < z ∧ z < p
theorem th_s15 {n : Nat} {t2 b : List Int} {t25 : List (List Int)} {t26 t27 : Int} {T : List Int} {next : List Int → Int → Option ρ} {k0 k1 : List Int → Option ρ} (i : Nat) (hi : i < 3) (p q r : Int) (hb : b.length = 3)
    (h0 : b[i]? = some p) (h1 : b[(i + 1) % 3]? = some q) (h2 : b[(i + 2) % 3]? = some r) (hp : 0 ≤ p ∧ p < 40) (hq : 0 ≤ q ∧ q < 40) (hT : T.length = 1600) (ht : t2.length = 1600) :
    triple_third_s15 n t2 b t25 t26 t27 b (b.length : Int) T (i : Int) next k0 k1 = orE (putT p q r T) (fun T' => next T' ((i + 1 : Nat) : Int)) (k0 zeros) := by
  unfold triple_third_s15
  have e1 : (IntKind.i64.wrap ((i : Int) + 1)).tmod 3 = (((i + 1) % 3 : Nat) : Int) := by
    rw [w64s (by omega)]
    have : i = 0 ∨ i = 1 ∨ i = 2 := by omega
    rcases this with rfl | rfl | rfl <;> rfl
  have e2 : (IntKind.i64.wrap ((i : Int) + 2)).tmod 3 = (((i + 2) % 3 : Nat) : Int) := by
    rw [w64 (by omega)]
    have : i = 0 ∨ i = 1 ∨ i = 2 := by omega
    rcases this with rfl | rfl | rfl <;> rfl
  have l1 : (i + 1) % 3 < b.length := by omega
  have l2 : (i + 2) % 3 < b.length := by omega
  have z16 : (List.replicate 1600 (0 : Int)).length = 1600 := List.length_replicate ..
  simp only [e1, e2]
  simp (disch := omega) only [brO_pos, chk_pos, chk_T, h0, h1, h2, bnd_sm, Int.toNat_natCast, w64s]
  have hx := ix_lt hp hq
  have hx' := ix_lt hq hp
  have hg : T[ix p q]? = some T[ix p q] := List.getElem?_eq_getElem (by omega)
  unfold putT
  rw [hg]
  change bnd T[ix p q]? _ = _
  rw [hg, bnd_sm, brO_if]
  by_cases hv : T[ix p q] ≥ 0
  · simp only [hv, decide_true, if_true, orE_none]
    rfl
  · simp only [hv, decide_false, Bool.false_eq_true, if_false]
    have g1 : ix p q < T.length := by omega
    have g2 : ix q p < (T.set (ix p q) r).length := by rw [List.length_set]; omega
    unfold ix at g1 g2 ⊢
    rw [chk_pos g2]
    rfl
theorem iter3 {σ : Type} {St : σ × Int → (σ × Int → Option ρ) → Option ρ} (f : Nat → σ → Option σ) (e : Option ρ) (k : σ → Option ρ) (I : σ → Prop) (hf : ∀ i T T', I T → f i T = some T' → I T')
    (h : ∀ (i : Nat) T nx, i < 3 → I T → St (T, (i : Int)) nx = orE (f i T) (fun T' => nx (T', ((i + 1 : Nat) : Int))) e) (h3 : ∀ T nx, St (T, 3) nx = k T) (m : Nat) (T : σ) (hT : I T) :
    iterM St (m + 4) (T, 0) = orE (f 0 T) (fun T => orE (f 1 T) (fun T => orE (f 2 T) k e) e) e := by
  show St (T, ((0 : Nat) : Int)) _ = _
  rw [h 0 T _ (by omega) hT]
  cases e0 : f 0 T with
  | none => rfl
  | some T0 =>
    have h0 := hf _ _ _ hT e0
    show St (T0, ((1 : Nat) : Int)) _ = _
    rw [h 1 T0 _ (by omega) h0]
    cases e1 : f 1 T0 with
    | none => simp only [orE_some, e1, orE_none]
    | some T1 =>
      have h1 := hf _ _ _ h0 e1
      show St (T1, ((2 : Nat) : Int)) _ = _
      rw [h 2 T1 _ (by omega) h1]
      cases e2 : f 2 T1 with
      | none => simp only [orE_some, e1, e2, orE_none]
      | some T2 =>
        simp only [orE_some, e1, e2]
        exact h3 T2 _
theorem th_l15 {n : Nat} {t2 : List Int} {t25 : List (List Int)} {t26 t27 : Int} {T : List Int} {k0 k1 : List Int → Option ρ} (hn : 3 < n) {b : List Int} (hb : tri 40 b) (hT : T.length = 1600) (ht : t2.length = 1600) :
    triple_third_l15 n t2 b t25 t26 t27 b (b.length : Int) T 0 k0 k1 = orE (blockT b T) k1 (k0 zeros) := by
  obtain ⟨x, y, z, rfl, h0, h1, h2, h3⟩ := hb
  obtain ⟨m, rfl⟩ : ∃ m, n = m + 4 := ⟨n - 4, by omega⟩
  have sx : 0 ≤ x ∧ x < 40 := by omega
  have sy : 0 ≤ y ∧ y < 40 := by omega
  have sz : 0 ≤ z ∧ z < 40 := by omega
  refine Eq.trans (b := iterM (fun (s : List Int × Int) nx => triple_third_s15 (m + 4) t2 [x, y, z] t25 t26 t27 [x, y, z] ([x, y, z].length : Int) s.1 s.2 (fun a0 a1 => nx (a0, a1)) k0 k1) (m + 4) (T, 0)) rfl ?_
  refine (iter3 (fun i T => match i with | 0 => putT x y z T | 1 => putT y z x T | _ => putT z x y T) (k0 zeros) k1 (fun T => T.length = 1600) ?_ ?_ ?_ m T hT).trans ?_
  · intro i T T' hT h
    match i with
    | 0 => exact (putT_len h).trans hT
    | 1 => exact (putT_len h).trans hT
    | i + 2 => exact (putT_len h).trans hT
  · intro i T nx hi hT
    match i, hi with
    | 0, _ => exact th_s15 (b := [x, y, z]) 0 (by omega) x y z rfl rfl rfl rfl sx sy hT ht
    | 1, _ => exact th_s15 (b := [x, y, z]) 1 (by omega) y z x rfl rfl rfl rfl sy sz hT ht
    | 2, _ => exact th_s15 (b := [x, y, z]) 2 (by omega) z x y rfl rfl rfl rfl sz sx hT ht
  · intro T nx
    unfold triple_third_s15
    exact brO_neg (by simp) _ _
  · unfold blockT
    simp only
    cases putT x y z T with
    | none => rfl
    | some T1 =>
      simp only
      simp only [orE_some]
      cases putT y z x T1 with
      | none => rfl
      | some T2 => rfl
theorem th_fold (k0 k1 : List Int → Option ρ) : ∀ (l : List (List Int)) (T : List Int), foldO (fun b T nx => orE (blockT b T) nx (k0 zeros)) k1 l T = orE (thirdT l T) k1 (k0 zeros)
  | [], T => rfl
  | b :: l, T => by
    rw [foldO_cons]
    unfold thirdT
    cases h : blockT b T with
    | none => rfl
    | some T' => exact th_fold k0 k1 l T'
theorem foldO_congr {α σ : Type} {F G : α → σ → (σ → Option ρ) → Option ρ} {k : σ → Option ρ} (I : σ → Prop) : ∀ (l : List α) (s : σ), I s → (∀ a s nx, a ∈ l → I s → F a s nx = G a s nx) →
    (∀ a s nx nx', a ∈ l → I s → (∀ s', I s' → nx s' = nx' s') → G a s nx = G a s nx') → foldO F k l s = foldO G k l s
  | [], _, _, _, _ => rfl
  | a :: l, s, h, hF, hG => by
    rw [foldO_cons, foldO_cons, hF a s _ (List.mem_cons_self ..) h]
    exact hG a s _ _ (List.mem_cons_self ..) h fun s' hs' => foldO_congr I l s' hs' (fun b s nx hb => hF b s nx (List.mem_cons_of_mem _ hb)) (fun b s nx nx' hb => hG b s nx nx' (List.mem_cons_of_mem _ hb))
theorem th_l12 {n : Nat} {t2 : List Int} {T : List Int} {k0 k1 : List Int → Option ρ} {l : List (List Int)} (hl : l.length ≤ 9223372036854775807) (hn : l.length < n) (hn3 : 3 < n) (hb : ∀ b, b ∈ l → tri 40 b) (hT : T.length = 1600) (ht : t2.length = 1600) :
    triple_third_l12 n t2 l (l.length : Int) T 0 k0 k1 = orE (thirdT l T) k1 (k0 zeros) := by
  unfold triple_third_l12
  refine (iter_list l (fun i (T : List Int) => (T, (i : Int))) (fun b T nx => triple_third_l15 n t2 b l (l.length : Int) 0 b (b.length : Int) T 0 k0 nx) k1 ?_ ?_ n 0 T (Nat.zero_le _) (by omega)).trans ?_
  · intro i s nx hi
    unfold triple_third_s12
    simp (disch := omega) only [brO_pos, chk_pos, bnd_get, w64s, Int.toNat_natCast]
    have e : ∀ t27, triple_third_l15 (ρ := ρ) n t2 l[i] l (l.length : Int) t27 l[i] (l[i].length : Int) s 0 k0 (fun x9' => nx (x9', ((i + 1 : Nat) : Int))) = triple_third_l15 n t2 l[i] l (l.length : Int) 0 l[i] (l[i].length : Int) s 0 k0 (fun x9' => nx (x9', ((i + 1 : Nat) : Int))) := fun _ => rfl
    exact e _
  · intro s nx
    unfold triple_third_s12
    simp (disch := omega) only [brO_neg]
  · rw [List.drop_zero, ← th_fold]
    refine foldO_congr (fun T => T.length = 1600) l T hT ?_ ?_
    · intro b T nx hbl hT
      exact th_l15 hn3 (hb b hbl) hT ht
    · intro b T nx nx' hbl hT hnx
      cases e : blockT b T with
      | none => rfl
      | some T' =>
        exact hnx _ (by rw [blockT_len e]; exact hT)
/-! ### The table before any block -/
def rowT (x : Nat) (T : List Int) : List Int := (List.range' 0 40).foldl (fun T y => T.set ((0 + (x * 40)) + (y * 1)) (-1)) T
def none0 : List Int := (List.range' 0 40).foldl (fun T x => rowT x T) zeros
theorem foldl_set_len {f : Nat → Nat} {v : Int} : ∀ (l : List Nat) (T : List Int), (l.foldl (fun T y => T.set (f y) v) T).length = T.length
  | [], _ => rfl
  | a :: l, T => by rw [List.foldl_cons, foldl_set_len l]; simp
theorem th_l6 {n : Nat} {l : List (List Int)} {t2 T : List Int} {t13 : Int} {x : Nat} (hx : x < 40) (hn : 40 < n) (hT : T.length = 1600) (k0 : List Int → Option ρ) : triple_third_l6 n l t2 x t13 T 0 k0 = k0 (rowT x T) := by
  unfold triple_third_l6
  refine (iter_range 40 (fun i (T : List Int) => (T, (i : Int))) (fun y T nx => chk (((0 + (x * 40)) + (y * 1)) < T.length) (nx (T.set ((0 + (x * 40)) + (y * 1)) (-1)))) k0 ?_ ?_ n 0 T (by omega) (by omega)).trans ?_
  · intro i s nx hi
    unfold triple_third_s6
    simp (disch := omega) only [brO_pos, chk_pos, w64s, Int.toNat_natCast]
  · intro s nx
    unfold triple_third_s6
    rfl
  · refine foldO_pure (fun y T => T.set ((0 + (x * 40)) + (y * 1)) (-1)) (fun T => T.length = 1600) _ T hT (fun a s _ h => by simpa using h) ?_
    intro a s nx ha hs
    rw [List.mem_range'_1] at ha
    exact chk_pos (by omega) _
theorem th_l3 {n : Nat} {l : List (List Int)} {t2 : List Int} (hn : 40 < n) (k0 : List Int → Option ρ) : triple_third_l3 n l t2 zeros 0 k0 = k0 none0 := by
  unfold triple_third_l3
  refine (iter_range 40 (fun i (T : List Int) => (T, (i : Int))) (fun x T nx => triple_third_l6 n l t2 (x : Int) (x : Int) T 0 nx) k0 ?_ ?_ n 0 zeros (by omega) (by omega)).trans ?_
  · intro i s nx hi
    unfold triple_third_s3
    simp (disch := omega) only [brO_pos, w64s]
  · intro s nx
    unfold triple_third_s3
    rfl
  · refine foldO_pure (fun x T => rowT x T) (fun T => T.length = 1600) _ zeros (List.length_replicate ..) (fun a s _ h => by unfold rowT; rw [foldl_set_len]; exact h) ?_
    intro a s nx ha hs
    rw [List.mem_range'_1] at ha
    exact th_l6 (by omega) hn hs nx
theorem none0_len : none0.length = 1600 := by
  unfold none0
  have : ∀ (l : List Nat) (T : List Int), (l.foldl (fun T x => rowT x T) T).length = T.length := by
    intro l
    induction l with
    | nil => intro T; rfl
    | cons a l ih => intro T; rw [List.foldl_cons, ih]; unfold rowT; rw [foldl_set_len]
  rw [this]
  exact List.length_replicate ..
theorem set_all {f : Nat → Nat} {v : Int} : ∀ (l : List Nat) (T : List Int) (j : Nat), (l.foldl (fun T y => T.set (f y) v) T)[j]? = if j < T.length ∧ ∃ y, y ∈ l ∧ f y = j then some v else T[j]?
  | [], T, j => by simp
  | a :: l, T, j => by
    rw [List.foldl_cons, set_all l, List.length_set, List.getElem?_set]
    by_cases h : f a = j
    · by_cases hj : j < T.length
      · simp [h, hj]
      · simp [h, hj]
    · by_cases h' : ∃ y, y ∈ l ∧ f y = j
      · by_cases hj : j < T.length <;> simp [h, h', hj]
      · simp [h, h']
theorem row_get (x : Nat) (T : List Int) (j : Nat) : (rowT x T)[j]? = if j < T.length ∧ x * 40 ≤ j ∧ j < x * 40 + 40 then some (-1) else T[j]? := by
  unfold rowT
  rw [set_all]
  have : (∃ y, y ∈ List.range' 0 40 ∧ (0 + (x * 40)) + (y * 1) = j) ↔ (x * 40 ≤ j ∧ j < x * 40 + 40) := by
    constructor
    · rintro ⟨y, hy, rfl⟩
      rw [List.mem_range'_1] at hy
      omega
    · intro h
      exact ⟨j - x * 40, by rw [List.mem_range'_1]; omega, by omega⟩
  simp only [this]
theorem none0_get {j : Nat} (hj : j < 1600) : none0[j]? = some (-1) := by
  unfold none0
  have key : ∀ (l : List Nat) (T : List Int), T.length = 1600 → (l.foldl (fun T x => rowT x T) T)[j]? = if ∃ x, x ∈ l ∧ x * 40 ≤ j ∧ j < x * 40 + 40 then some (-1) else T[j]? := by
    intro l
    induction l with
    | nil => intro T hT; simp
    | cons a l ih =>
      intro T hT
      rw [List.foldl_cons, ih _ (by unfold rowT; rw [foldl_set_len]; exact hT), row_get]
      by_cases h : ∃ x, x ∈ l ∧ x * 40 ≤ j ∧ j < x * 40 + 40
      · simp [h]
      · by_cases h' : a * 40 ≤ j ∧ j < a * 40 + 40
        · simp [h, h', hT, hj]
        · have : ¬ (j < T.length ∧ a * 40 ≤ j ∧ j < a * 40 + 40) := fun h => h' h.2
          simp [h, h', this]
  have hz : zeros.length = 1600 := List.length_replicate ..
  rw [key _ zeros hz, if_pos]
  exact ⟨j / 40, by rw [List.mem_range'_1]; omega, by omega, by omega⟩
theorem third_eq {n : Nat} {l : List (List Int)} (hl : l.length ≤ 9223372036854775807) (hn : l.length < n) (hn3 : 40 < n) (hb : ∀ b, b ∈ l → tri 40 b) :
    triple_third n l = some (match thirdT l none0 with | some T => (T, true) | none => (zeros, false)) := by
  unfold triple_third
  have z16 : (List.replicate 1600 (0 : Int)).length = 1600 := List.length_replicate ..
  refine (th_l3 hn3 _).trans ?_
  refine (th_l12 hl hn (by omega) hb none0_len z16).trans ?_
  have hlen : ∀ (l : List (List Int)) (T T' : List Int), thirdT l T = some T' → T'.length = T.length := by
    intro l
    induction l with
    | nil => intro T T' h; cases h; rfl
    | cons b l ih =>
      intro T T' h
      unfold thirdT at h
      split at h
      · rename_i e
        rw [ih _ _ h, blockT_len e]
      · cases h
  cases h : thirdT l none0 with
  | none =>
    simp only
    have hz : zeros.length = 1600 := List.length_replicate ..
    simp only [orE_none, hz, beq_self_eq_true, chk_T]
  | some T =>
    have hT : T.length = 1600 := by rw [hlen _ _ _ h, none0_len]
    simp only [orE_some]
    simp only [hT, z16, beq_self_eq_true, chk_T]
end
end Go.Gl
