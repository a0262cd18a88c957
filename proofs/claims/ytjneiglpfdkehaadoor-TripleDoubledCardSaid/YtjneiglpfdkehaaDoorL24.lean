/-
  L24: the product of two systems: what the program lists.
  Conditions: none; plain laws.
-/
import Derived.Test.YtjneiglpfdkehaaDoorL23
namespace Go.Gl
open Go Go.Gx Go.Gm
section
variable {ρ : Type}
/-- The rows of a product. -/
def pB (w : Int) (c : List Int) (x : Nat) : List Int := [x * w + u3 c 0, x * w + u3 c 1, x * w + u3 c 2]
def pA (w : Int) (c : List Int) (y : Nat) : List Int := [u3 c 0 * w + y, u3 c 1 * w + y, u3 c 2 * w + y]
def six : List (Nat × Nat × Nat) := [(0, 1, 2), (0, 2, 1), (1, 0, 2), (1, 2, 0), (2, 0, 1), (2, 1, 0)]
def pX (w : Int) (c d : List Int) (s : Nat × Nat × Nat) : List Int := [u3 c 0 * w + u3 d s.1, u3 c 1 * w + u3 d s.2.1, u3 c 2 * w + u3 d s.2.2]
def PL (v w : Nat) (la lb : List (List Int)) : List (List Int) := (lb.flatMap fun c => (List.range v).flatMap fun x => [sortI (pB w c x)]) ++ la.flatMap fun c => ((List.range w).flatMap fun y => [sortI (pA w c y)]) ++ lb.flatMap fun d => six.map fun s => sortI (pX w c d s)
theorem tri_get {q : Nat} {b : List Int} (hb : tri q b) : b[0]? = some (u3 b 0) ∧ b[1]? = some (u3 b 1) ∧ b[2]? = some (u3 b 2) ∧ b.length = 3 ∧ 0 ≤ u3 b 0 ∧ u3 b 0 < u3 b 1 ∧ u3 b 1 < u3 b 2 ∧ u3 b 2 < q := by
  obtain ⟨x, y, z, rfl, h1, h2, h3, h4⟩ := hb
  exact ⟨rfl, rfl, rfl, rfl, h1, h2, h3, h4⟩
theorem mul_le {a b : Nat} (ha : a ≤ 40) (hb : b ≤ 40) : (0 : Int) ≤ (a : Int) * (b : Int) ∧ (a : Int) * (b : Int) ≤ 1600 := by
  have := Nat.mul_le_mul ha hb
  rw [← Int.natCast_mul]
  omega
theorem mul_le' {a : Int} {b : Nat} (h0 : 0 ≤ a) (ha : a ≤ 40) (hb : b ≤ 40) : (0 : Int) ≤ a * (b : Int) ∧ a * (b : Int) ≤ 1600 := by
  obtain ⟨k, rfl⟩ := Int.eq_ofNat_of_zero_le h0
  exact mul_le (a := k) (by omega) hb
theorem pr_l16 {n v w : Nat} {t2 t3 t4 t53 t54 : Int} {l2 l3 l4 t52 : List (List Int)} {c : List Int} {L : List (List Int)} {u : Int} {k0 : List (List Int) → Int → Option ρ} (hc : tri w c) (hv : v ≤ 40) (hw : w ≤ 40) (hn : 40 < n) (hL : L.length ≤ 2 ^ 20) :
    triple_Product_l16 n t2 l2 t3 l3 t4 l4 v w c t52 t53 t54 v L u 0 k0 = k0 (L ++ (List.range v).flatMap fun x => [sortI (pB w c x)]) u := by
  unfold triple_Product_l16
  obtain ⟨g0, g1, g2, hlen, o1, o2, o3, o4⟩ := tri_get hc
  exact range_grow (step := fun (s : List (List Int) × Int × Int) nx => triple_Product_s16 n t2 l2 t3 l3 t4 l4 v w c t52 t53 t54 v s.1 s.2.1 s.2.2 (fun a0 a1 a2 => nx (a0, a1, a2)) k0) v (fun i L => (L, u, (i : Int))) (fun x => [sortI (pB w c x)]) 1 (fun L => k0 L u) (fun _ _ => by simp)
    (fun i s nx hi hs => by
      dsimp only
      unfold triple_Product_s16
      have hm := mul_le (a := i) (b := w) (by omega) hw
      rw [brO_pos (by omega), chk_pos (by omega), chk_pos (by omega), g0, bnd_sm, chk_pos (by omega), chk_pos (by omega), g1, bnd_sm, chk_pos (by omega), chk_pos (by omega), g2, bnd_sm, w64 (x := (i : Int) * w) (by omega), w64 (by omega), w64 (by omega), w64 (by omega), add_eq (by omega), bnd_sm, w64s (by omega)]
      rfl)
    (fun s nx => by
      dsimp only
      unfold triple_Product_s16
      rw [brO_neg (by omega)]) n L (by omega) (by omega)
theorem pr_l25 {n w : Nat} {t3 t4 t91 t92 : Int} {l3 l4 t90 : List (List Int)} {v : Nat} {c : List Int} {L : List (List Int)} {u : Int} {k0 : List (List Int) → Int → Option ρ} (hc : tri v c) (hv : v ≤ 40) (hw : w ≤ 40) (hn : 40 < n) (hL : L.length ≤ 2 ^ 20) :
    triple_Product_l25 n t3 l3 t4 l4 w c t90 t91 t92 w L u 0 k0 = k0 (L ++ (List.range w).flatMap fun y => [sortI (pA w c y)]) u := by
  unfold triple_Product_l25
  obtain ⟨g0, g1, g2, hlen, o1, o2, o3, o4⟩ := tri_get hc
  have m0 := mul_le' (a := u3 c 0) (b := w) (by omega) (by omega) hw
  have m1 := mul_le' (a := u3 c 1) (b := w) (by omega) (by omega) hw
  have m2 := mul_le' (a := u3 c 2) (b := w) (by omega) (by omega) hw
  exact range_grow (step := fun (s : List (List Int) × Int × Int) nx => triple_Product_s25 n t3 l3 t4 l4 w c t90 t91 t92 w s.1 s.2.1 s.2.2 (fun a0 a1 a2 => nx (a0, a1, a2)) k0) w (fun i L => (L, u, (i : Int))) (fun y => [sortI (pA w c y)]) 1 (fun L => k0 L u) (fun _ _ => by simp)
    (fun i s nx hi hs => by
      dsimp only
      unfold triple_Product_s25
      rw [brO_pos (by omega), chk_pos (by omega), chk_pos (by omega), g0, bnd_sm, chk_pos (by omega), chk_pos (by omega), g1, bnd_sm, chk_pos (by omega), chk_pos (by omega), g2, bnd_sm, w64 (x := u3 c 0 * (w : Int)) (by omega), w64 (x := u3 c 1 * (w : Int)) (by omega), w64 (x := u3 c 2 * (w : Int)) (by omega), w64 (by omega), w64 (by omega), w64 (by omega), add_eq (by omega), bnd_sm, w64s (by omega)]
      rfl)
    (fun s nx => by
      dsimp only
      unfold triple_Product_s25
      rw [brO_neg (by omega)]) n L (by omega) (by omega)
def pairs18 : List Int := [0, 1, 2, 0, 2, 1, 1, 0, 2, 1, 2, 0, 2, 0, 1, 2, 1, 0]
theorem pr_l33 {n w v : Nat} {t3 t4 t91 t92 t128 t129 : Int} {l3 l4 t90 t127 : List (List Int)} {c d : List Int} {L : List (List Int)} {u : Int} {k0 : List (List Int) → Int → Option ρ} (hc : tri v c) (hd : tri w d) (hv : v ≤ 40) (hw : w ≤ 40) (hn : 40 < n) (hL : L.length ≤ 2 ^ 20) :
    triple_Product_l33 n t3 l3 t4 l4 w c d t90 t91 t92 t127 t128 t129 pairs18 L u 0 k0 = k0 (L ++ six.map fun s => sortI (pX w c d s)) u := by
  unfold triple_Product_l33
  obtain ⟨g0, g1, g2, hlen, o1, o2, o3, o4⟩ := tri_get hc
  obtain ⟨f0, f1, f2, flen, p1, p2, p3, p4⟩ := tri_get hd
  have m0 := mul_le' (a := u3 c 0) (b := w) (by omega) (by omega) hw
  have m1 := mul_le' (a := u3 c 1) (b := w) (by omega) (by omega) hw
  have m2 := mul_le' (a := u3 c 2) (b := w) (by omega) (by omega) hw
  have key : ∀ (i x y z : Nat) (s : List (List Int)) (nx : List (List Int) × Int × Int → Option ρ), i < 6 → s.length + 1 < 2 ^ 40 → x < 3 → y < 3 → z < 3 → (pairs18.take (i * 3 + 3)).drop (i * 3) = [(x : Int), (y : Int), (z : Int)] →
      triple_Product_s33 n t3 l3 t4 l4 w c d t90 t91 t92 t127 t128 t129 pairs18 s u (i : Int) (fun a0 a1 a2 => nx (a0, a1, a2)) k0 = nx (s ++ [sortI (pX w c d (x, y, z))], u, ((i + 1 : Nat) : Int)) := by
    intro i x y z s nx hi hs hx hy hz he
    have get : ∀ j : Nat, j < 3 → d[j]? = some (u3 d j) ∧ 0 ≤ u3 d j ∧ u3 d j < 40 := by
      intro j hj
      rcases (show j = 0 ∨ j = 1 ∨ j = 2 by omega) with rfl | rfl | rfl
      · exact ⟨f0, by omega, by omega⟩
      · exact ⟨f1, by omega, by omega⟩
      · exact ⟨f2, by omega, by omega⟩
    have e0 : ([(x : Int), (y : Int), (z : Int)] : List Int)[0]? = some (x : Int) := rfl
    have e1 : ([(x : Int), (y : Int), (z : Int)] : List Int)[1]? = some (y : Int) := rfl
    have e2 : ([(x : Int), (y : Int), (z : Int)] : List Int)[2]? = some (z : Int) := rfl
    have q0 := get x hx
    have q1 := get y hy
    have q2 := get z hz
    unfold triple_Product_s33
    rw [Int.toNat_natCast, he]
    rw [brO_pos (by omega), chk_pos (show pairs18.length = 6 * 3 from rfl), chk_pos (show (0 : Int) ≤ (i : Int) by omega), chk_pos (show (i : Int) < 6 by omega), chk_pos (show 3 = 3 from rfl), chk_pos (show 0 = 0 from rfl), chk_pos (show ([(x : Int), (y : Int), (z : Int)] : List Int).length = 3 from rfl), chk_pos (show (List.replicate 3 (0 : Int)).length = 3 from rfl), chk_pos (by omega), chk_pos (by omega), g0, bnd_sm, chk_pos (by omega), chk_pos (by omega), e0, bnd_sm, chk_pos (by omega), chk_pos (by omega), Int.toNat_natCast, q0.1, bnd_sm,
      chk_pos (by omega), chk_pos (by omega), g1, bnd_sm, chk_pos (by omega), chk_pos (by omega), e1, bnd_sm, chk_pos (by omega), chk_pos (by omega), Int.toNat_natCast, q1.1, bnd_sm,
      chk_pos (by omega), chk_pos (by omega), g2, bnd_sm, chk_pos (by omega), chk_pos (by omega), e2, bnd_sm, chk_pos (by omega), chk_pos (by omega), Int.toNat_natCast, q2.1, bnd_sm,
      w64 (x := u3 c 0 * (w : Int)) (by omega), w64 (x := u3 c 1 * (w : Int)) (by omega), w64 (x := u3 c 2 * (w : Int)) (by omega), w64 (by omega), w64 (by omega), w64 (by omega), add_eq (by omega), bnd_sm, w64s (by omega)]
    rfl
  have h := range_grow (step := fun (s : List (List Int) × Int × Int) nx => triple_Product_s33 n t3 l3 t4 l4 w c d t90 t91 t92 t127 t128 t129 pairs18 s.1 s.2.1 s.2.2 (fun a0 a1 a2 => nx (a0, a1, a2)) k0) 6 (fun i L => (L, u, (i : Int))) (fun i => [sortI (pX w c d (six.getD i (0, 0, 0)))]) 1 (fun L => k0 L u) (fun _ _ => by simp)
    (fun i s nx hi hs => by
      dsimp only
      rcases (show i = 0 ∨ i = 1 ∨ i = 2 ∨ i = 3 ∨ i = 4 ∨ i = 5 by omega) with rfl | rfl | rfl | rfl | rfl | rfl
      · exact key 0 0 1 2 s nx hi hs (by omega) (by omega) (by omega) rfl
      · exact key 1 0 2 1 s nx hi hs (by omega) (by omega) (by omega) rfl
      · exact key 2 1 0 2 s nx hi hs (by omega) (by omega) (by omega) rfl
      · exact key 3 1 2 0 s nx hi hs (by omega) (by omega) (by omega) rfl
      · exact key 4 2 0 1 s nx hi hs (by omega) (by omega) (by omega) rfl
      · exact key 5 2 1 0 s nx hi hs (by omega) (by omega) (by omega) rfl)
    (fun s nx => by
      dsimp only
      unfold triple_Product_s33
      rw [brO_neg (by omega)]) n L (by omega) (by omega)
  exact h
theorem flat1 {v : Nat} {g : Nat → List Int} : ((List.range v).flatMap fun x => [g x]).length = v := by
  induction v with
  | zero => rfl
  | succ v ih => rw [List.range_succ, List.flatMap_append, List.length_append, ih]; rfl
theorem pr_l13 {n v w : Nat} {t2 t3 t4 : Int} {l2 l3 l4 lb : List (List Int)} {L : List (List Int)} {u : Int} {k0 : List (List Int) → Int → Option ρ} (ht : ∀ b, b ∈ lb → tri w b) (hl : lb.length ≤ 200) (hv : v ≤ 40) (hw : w ≤ 40) (hn : 2000 < n) (hL : L.length ≤ 1000) :
    triple_Product_l13 n t2 l2 t3 l3 t4 l4 v w lb (lb.length : Int) L u 0 k0 = k0 (L ++ lb.flatMap fun c => (List.range v).flatMap fun x => [sortI (pB w c x)]) u := by
  unfold triple_Product_l13
  have main : ∀ (m i : Nat) (s : List (List Int)), i ≤ lb.length → lb.length < i + m → s.length ≤ 1000 + 40 * i →
      iterM (fun (s : (List (List Int)) × Int × Int) nx => triple_Product_s13 n t2 l2 t3 l3 t4 l4 v w lb (lb.length : Int) s.1 s.2.1 s.2.2 (fun a0 a1 a2 => nx (a0, a1, a2)) k0) m (s, u, (i : Int)) = k0 (s ++ (lb.drop i).flatMap fun c => (List.range v).flatMap fun x => [sortI (pB w c x)]) u := by
    intro m
    induction m with
    | zero => intro i s h1 h2; omega
    | succ m ih =>
      intro i s h1 h2 h3
      rw [iterM_succ]
      dsimp only
      generalize hN : iterM (fun (s : (List (List Int)) × Int × Int) nx => triple_Product_s13 n t2 l2 t3 l3 t4 l4 v w lb (lb.length : Int) s.1 s.2.1 s.2.2 (fun a0 a1 a2 => nx (a0, a1, a2)) k0) m = N
      unfold triple_Product_s13
      rcases Nat.lt_or_ge i lb.length with hi | hi
      · rw [brO_pos (by omega), chk_pos (by omega), chk_pos (by omega), Int.toNat_natCast, bnd_get hi, pr_l16 (ht _ (List.getElem_mem hi)) hv hw (by omega) (by omega), w64s (by omega), ← hN]
        dsimp only
        rw [ih (i + 1) _ hi (by omega) (by rw [List.length_append, flat1]; omega), List.drop_eq_getElem_cons hi, List.flatMap_cons, List.append_assoc]
      · have : i = lb.length := by omega
        subst this
        rw [brO_neg (by omega), List.drop_length, List.flatMap_nil, List.append_nil]
  exact main n 0 L (by omega) (by omega) (by omega)
theorem pr_l30 {n w v : Nat} {t3 t4 t91 t92 : Int} {l4 t90 lb : List (List Int)} {c : List Int} {L : List (List Int)} {u : Int} {k0 : List (List Int) → Int → Option ρ} (hc : tri v c) (ht : ∀ b, b ∈ lb → tri w b) (hl : lb.length ≤ 200) (hv : v ≤ 40) (hw : w ≤ 40) (hn : 2000 < n) (hL : L.length ≤ 500000) :
    triple_Product_l30 n t3 lb t4 l4 w c t90 t91 t92 lb (lb.length : Int) L u 0 k0 = k0 (L ++ lb.flatMap fun d => six.map fun s => sortI (pX w c d s)) u := by
  unfold triple_Product_l30
  have main : ∀ (m i : Nat) (s : List (List Int)), i ≤ lb.length → lb.length < i + m → s.length ≤ 500000 + 6 * i →
      iterM (fun (s : (List (List Int)) × Int × Int) nx => triple_Product_s30 n t3 lb t4 l4 w c t90 t91 t92 lb (lb.length : Int) s.1 s.2.1 s.2.2 (fun a0 a1 a2 => nx (a0, a1, a2)) k0) m (s, u, (i : Int)) = k0 (s ++ (lb.drop i).flatMap fun d => six.map fun s => sortI (pX w c d s)) u := by
    intro m
    induction m with
    | zero => intro i s h1 h2; omega
    | succ m ih =>
      intro i s h1 h2 h3
      rw [iterM_succ]
      dsimp only
      generalize hN : iterM (fun (s : (List (List Int)) × Int × Int) nx => triple_Product_s30 n t3 lb t4 l4 w c t90 t91 t92 lb (lb.length : Int) s.1 s.2.1 s.2.2 (fun a0 a1 a2 => nx (a0, a1, a2)) k0) m = N
      unfold triple_Product_s30
      rcases Nat.lt_or_ge i lb.length with hi | hi
      · rw [brO_pos (by omega), chk_pos (by omega), chk_pos (by omega), Int.toNat_natCast, bnd_get hi, chk_pos (by rfl)]
        show triple_Product_l33 n t3 lb t4 l4 w c lb[i] t90 t91 t92 lb _ _ pairs18 s u 0 _ = _
        rw [pr_l33 hc (ht _ (List.getElem_mem hi)) hv hw (by omega) (by omega), w64s (by omega), ← hN]
        dsimp only
        rw [ih (i + 1) _ hi (by omega) (by rw [List.length_append, List.length_map]; simp only [six, List.length_cons, List.length_nil]; omega), List.drop_eq_getElem_cons hi, List.flatMap_cons, List.append_assoc]
      · have : i = lb.length := by omega
        subst this
        rw [brO_neg (by omega), List.drop_length, List.flatMap_nil, List.append_nil]
  exact main n 0 L (by omega) (by omega) (by omega)
theorem pr_l22 {n w v : Nat} {t3 t4 : Int} {l4 la lb : List (List Int)} {L : List (List Int)} {u : Int} {k0 : List (List Int) → Int → Option ρ} (ha : ∀ b, b ∈ la → tri v b) (ht : ∀ b, b ∈ lb → tri w b) (hla : la.length ≤ 200) (hl : lb.length ≤ 200) (hv : v ≤ 40) (hw : w ≤ 40) (hn : 2000 < n) (hL : L.length ≤ 10000) :
    triple_Product_l22 n t3 lb t4 l4 w la (la.length : Int) L u 0 k0 = k0 (L ++ la.flatMap fun c => ((List.range w).flatMap fun y => [sortI (pA w c y)]) ++ lb.flatMap fun d => six.map fun s => sortI (pX w c d s)) u := by
  unfold triple_Product_l22
  have hsix : ∀ c, (lb.flatMap fun d => six.map fun s => sortI (pX w c d s)).length ≤ 1200 := by
    intro c
    have := flat_len' (g := fun d => six.map fun s => sortI (pX w c d s)) (c := 6) (l := lb) (fun _ _ => by simp [six])
    omega
  have main : ∀ (m i : Nat) (s : List (List Int)), i ≤ la.length → la.length < i + m → s.length ≤ 10000 + 1240 * i →
      iterM (fun (s : (List (List Int)) × Int × Int) nx => triple_Product_s22 n t3 lb t4 l4 w la (la.length : Int) s.1 s.2.1 s.2.2 (fun a0 a1 a2 => nx (a0, a1, a2)) k0) m (s, u, (i : Int)) = k0 (s ++ (la.drop i).flatMap fun c => ((List.range w).flatMap fun y => [sortI (pA w c y)]) ++ lb.flatMap fun d => six.map fun s => sortI (pX w c d s)) u := by
    intro m
    induction m with
    | zero => intro i s h1 h2; omega
    | succ m ih =>
      intro i s h1 h2 h3
      rw [iterM_succ]
      dsimp only
      generalize hN : iterM (fun (s : (List (List Int)) × Int × Int) nx => triple_Product_s22 n t3 lb t4 l4 w la (la.length : Int) s.1 s.2.1 s.2.2 (fun a0 a1 a2 => nx (a0, a1, a2)) k0) m = N
      unfold triple_Product_s22
      rcases Nat.lt_or_ge i la.length with hi | hi
      · have hc := ha _ (List.getElem_mem hi)
        have hx := hsix la[i]
        rw [brO_pos (by omega), chk_pos (by omega), chk_pos (by omega), Int.toNat_natCast, bnd_get hi, pr_l25 hc hv hw (by omega) (by omega), pr_l30 hc ht hl hv hw hn (by rw [List.length_append, flat1]; omega), w64s (by omega), ← hN]
        dsimp only
        rw [ih (i + 1) _ hi (by omega) (by rw [List.length_append, List.length_append, flat1]; omega), List.drop_eq_getElem_cons hi, List.flatMap_cons]
        simp only [List.append_assoc]
      · have : i = la.length := by omega
        subst this
        rw [brO_neg (by omega), List.drop_length, List.flatMap_nil, List.append_nil]
  exact main n 0 L (by omega) (by omega) (by omega)
theorem PL_len {v w : Nat} {la lb : List (List Int)} (hv : v ≤ 40) (hw : w ≤ 40) (hla : la.length ≤ 200) (hlb : lb.length ≤ 200) : (lb.flatMap fun c => (List.range v).flatMap fun x => [sortI (pB w c x)]).length ≤ 8000 ∧ (PL v w la lb).length ≤ 300000 := by
  have h1 := flat_len' (g := fun c => (List.range v).flatMap fun x => [sortI (pB w c x)]) (c := 40) (l := lb) (fun c _ => by rw [flat1]; exact hv)
  have h2 := flat_len' (g := fun c => ((List.range w).flatMap fun y => [sortI (pA w c y)]) ++ lb.flatMap fun d => six.map fun s => sortI (pX w c d s)) (c := 1240) (l := la) (fun c _ => by
    have := flat_len' (g := fun d => six.map fun s => sortI (pX w c d s)) (c := 6) (l := lb) (fun _ _ => by simp [six])
    rw [List.length_append, flat1]
    omega)
  refine ⟨by omega, ?_⟩
  unfold PL
  rw [List.length_append]
  omega
theorem PL_rows {v w : Nat} {la lb : List (List Int)} : ∀ b, b ∈ PL v w la lb → b.length = 3 := by
  intro b hb
  unfold PL at hb
  rcases List.mem_append.1 hb with hb | hb
  · obtain ⟨c, _, hb⟩ := List.mem_flatMap.1 hb
    obtain ⟨x, _, hb⟩ := List.mem_flatMap.1 hb
    rw [List.mem_singleton.1 hb, sortI_len]
    rfl
  · obtain ⟨c, _, hb⟩ := List.mem_flatMap.1 hb
    rcases List.mem_append.1 hb with hb | hb
    · obtain ⟨x, _, hb⟩ := List.mem_flatMap.1 hb
      rw [List.mem_singleton.1 hb, sortI_len]
      rfl
    · obtain ⟨d, _, hb⟩ := List.mem_flatMap.1 hb
      obtain ⟨s, _, rfl⟩ := List.mem_map.1 hb
      rw [sortI_len]
      rfl
/-- What the program makes of the product. -/
def prd (p : Int) (l : List (List Int)) (q : Int) (m : List (List Int)) : Int × List (List Int) × Int :=
  if tfault p l = 0 then (if tfault q m = 0 then (if p * q > 33 then (0, [], 3) else (p * q, sortL (PL p.toNat q.toNat l m), 0)) else (0, [], tfault q m)) else (0, [], tfault p l)
theorem Product_eq {n : Nat} {p q : Int} {l m : List (List Int)} (h : okB n l) (h' : okB n m) (hn : 300000 < n) : triple_Product n p l q m = some (prd p l q m) := by
  unfold triple_Product prd
  obtain ⟨k, rfl⟩ : ∃ k, n = k + 3 := ⟨n - 3, by omega⟩
  have c1 := Check_eq' (p := p) h (by omega)
  have c2 := Check_eq' (p := q) h' (by omega)
  have hl2 : ∀ (k0 : Int → List (List Int) → Option (Int × (List (List Int)) × Int)) (k1 : Option (Int × (List (List Int)) × Int)), triple_Product_l2 (k + 3) p l q m 0 [] p l q m 2 0 k0 k1 = if tfault p l = 0 then (if tfault q m = 0 then k1 else k0 (tfault q m) []) else k0 (tfault p l) [] := by
    intro k0 k1
    unfold triple_Product_l2
    rw [iterM_succ]
    unfold triple_Product_s2
    rw [brO_pos (by omega), brO_pos rfl, c1, bnd_sm]
    by_cases hp : tfault p l = 0
    · rw [if_pos hp, show (tfault p l != 0) = false by simp [hp], brO_ff, show IntKind.i64.wrap ((0 : Int) + 1) = 1 from rfl, iterM_succ]
      rw [brO_pos (by omega), brO_neg (by omega), brO_pos rfl, c2, bnd_sm]
      by_cases hq : tfault q m = 0
      · rw [if_pos hq, show (tfault q m != 0) = false by simp [hq], brO_ff, show IntKind.i64.wrap ((1 : Int) + 1) = 2 from rfl, iterM_succ]
        rw [brO_neg (by omega)]
      · rw [if_neg hq, show (tfault q m != 0) = true by simp [hq], brO_tt]
    · rw [if_neg hp, show (tfault p l != 0) = true by simp [hp], brO_tt]
  rw [hl2]
  by_cases hp : tfault p l = 0
  · rw [if_pos hp, if_pos hp]
    by_cases hq : tfault q m = 0
    · rw [if_pos hq, if_pos hq]
      obtain ⟨v, rfl, a1, a2, a3, a4, _⟩ := tf_nat hp
      obtain ⟨w, rfl, b1, b2, b3, b4, _⟩ := tf_nat hq
      have hm := mul_le a2 b2
      have e : IntKind.i64.wrap ((v : Int) * (w : Int)) = (v : Int) * w := w64 (by omega)
      rw [e]
      by_cases hvw : (v : Int) * w > 33
      · rw [brO_pos hvw, if_pos hvw]
      · rw [brO_neg hvw, if_neg hvw, pr_l13 b4 b3 a2 b2 (by omega) (by simp)]
        obtain ⟨hl1, hl2⟩ := PL_len a2 b2 a3 b3
        rw [pr_l22 a4 b4 a3 b3 a2 b2 (by omega) (by rw [List.nil_append]; omega), List.nil_append]
        show bnd (triple_system_design (k + 3) (PL v w l m) ((v : Int) * w)) _ = _
        rw [design_eq (by omega) (fun b hb => by have := PL_rows b hb; omega), bnd_sm, Int.toNat_natCast, Int.toNat_natCast]
    · rw [if_neg hq, if_neg hq]
  · rw [if_neg hp, if_neg hp]
end
end Go.Gl
