/-
  L25: the product of two systems: the reference lists the same; the law of turns.
  Conditions: none; plain laws.
-/
import Derived.Test.YtjneiglpfdkehaaDoorL24
import Derived.KernelRfl
namespace Go.Gl
open Go Go.Gx Go.Gm
theorem perm0 (k : Nat) : ref1_PermOfRank (k + 20) 3 0 = some ([0, 1, 2], 0) := by kernel_rfl
theorem perm1 (k : Nat) : ref1_PermOfRank (k + 20) 3 1 = some ([0, 2, 1], 0) := by kernel_rfl
theorem perm2 (k : Nat) : ref1_PermOfRank (k + 20) 3 2 = some ([1, 0, 2], 0) := by kernel_rfl
theorem perm3 (k : Nat) : ref1_PermOfRank (k + 20) 3 3 = some ([1, 2, 0], 0) := by kernel_rfl
theorem perm4 (k : Nat) : ref1_PermOfRank (k + 20) 3 4 = some ([2, 0, 1], 0) := by kernel_rfl
theorem perm5 (k : Nat) : ref1_PermOfRank (k + 20) 3 5 = some ([2, 1, 0], 0) := by kernel_rfl
theorem flatMap_swap {α β γ : Type} (f : α → β → γ) : ∀ (l : List α) (m : List β), (l.flatMap fun a => m.flatMap fun b => [f a b]).Perm (m.flatMap fun b => l.flatMap fun a => [f a b])
  | [], m => by simp
  | a :: l, m => by
    rw [List.flatMap_cons]
    have h1 : (fun b => List.flatMap (fun a => [f a b]) (a :: l)) = fun b => f a b :: List.flatMap (fun a => [f a b]) l := by
      funext b
      rw [List.flatMap_cons]
      rfl
    rw [h1]
    refine List.Perm.trans ?_ (flatMap_split (f a) (fun b => List.flatMap (fun a => [f a b]) l) m).symm
    have h2 : (List.flatMap (fun b => [f a b]) m) = m.map (f a) := by
      induction m with
      | nil => rfl
      | cons b m ih => rw [List.flatMap_cons, ih]; rfl
    rw [h2]
    exact (flatMap_swap f l m).append_left _
section
variable {ρ : Type}
theorem po_l10 {n v w x : Nat} {t2 t4 : Int} {l2 l4 lb : List (List Int)} {L : List (List Int)} {k0 : List (List Int) → Option ρ} (ht : ∀ b, b ∈ lb → tri w b) (hl : lb.length ≤ 200) (hx : x < v) (hv : v ≤ 40) (hw : w ≤ 40) (hn : 2000 < n) (hL : L.length ≤ 10000) :
    ref2_ProductOf_l10 n t2 l2 w lb t4 l4 v w x L 0 k0 = k0 (L ++ lb.flatMap fun c => [pB w c x]) := by
  unfold ref2_ProductOf_l10
  have hm := mul_le (a := x) (b := w) (by omega) hw
  exact iter_grow (step := fun (s : List (List Int) × Int) nx => ref2_ProductOf_s10 n t2 l2 w lb t4 l4 v w x s.1 s.2 (fun a0 a1 => nx (a0, a1)) k0) lb (fun i L => (L, (i : Int))) (fun c => [pB w c x]) 1 k0 (fun _ _ => by simp)
    (fun i s nx hi hs => by
      dsimp only
      unfold ref2_ProductOf_s10
      obtain ⟨g0, g1, g2, hlen, o1, o2, o3, o4⟩ := tri_get (ht _ (List.getElem_mem hi))
      rw [brO_pos (by omega), chk_pos (by omega), chk_pos (by omega), Int.toNat_natCast, bnd_get hi, chk_pos (by omega), chk_pos (by omega), g0, bnd_sm, chk_pos (by omega), chk_pos (by omega), g1, bnd_sm, chk_pos (by omega), chk_pos (by omega), g2, bnd_sm,
        w64 (x := (x : Int) * w) (by omega), w64 (by omega), w64 (by omega), w64 (by omega), chk_pos rfl, chk_pos (by simp; omega), w64s (by omega)]
      rfl)
    (fun s nx => by
      dsimp only
      unfold ref2_ProductOf_s10
      rw [brO_neg (by omega)]) n 0 L (by omega) (by omega) (by omega)
theorem po_l7 {n v w : Nat} {t2 t4 : Int} {l2 l4 lb : List (List Int)} {k0 : List (List Int) → Option ρ} (ht : ∀ b, b ∈ lb → tri w b) (hl : lb.length ≤ 200) (hv : v ≤ 40) (hw : w ≤ 40) (hn : 2000 < n) :
    ref2_ProductOf_l7 n t2 l2 w lb t4 l4 v w [] 0 k0 = k0 ((List.range v).flatMap fun x => lb.flatMap fun c => [pB w c x]) := by
  unfold ref2_ProductOf_l7
  have hg : ∀ x : Nat, (lb.flatMap fun c => [pB w c x]).length ≤ 200 := fun x => by
    have := flat_len' (g := fun c => [pB w c x]) (c := 1) (l := lb) (fun _ _ => by simp)
    omega
  have main : ∀ (m i : Nat) (s : List (List Int)), i ≤ v → v < i + m → s.length ≤ 200 * i →
      iterM (fun (s : (List (List Int)) × Int) nx => ref2_ProductOf_s7 n t2 l2 w lb t4 l4 v w s.1 s.2 (fun a0 a1 => nx (a0, a1)) k0) m (s, (i : Int)) = k0 (s ++ ((List.range v).drop i).flatMap fun x => lb.flatMap fun c => [pB w c x]) := by
    intro m
    induction m with
    | zero => intro i s h1 h2; omega
    | succ m ih =>
      intro i s h1 h2 h3
      rw [iterM_succ]
      dsimp only
      generalize hN : iterM (fun (s : (List (List Int)) × Int) nx => ref2_ProductOf_s7 n t2 l2 w lb t4 l4 v w s.1 s.2 (fun a0 a1 => nx (a0, a1)) k0) m = N
      unfold ref2_ProductOf_s7
      rcases Nat.lt_or_ge i v with hi | hi
      · have hgi := hg i
        have hr : i < (List.range v).length := by simpa using hi
        rw [brO_pos (by omega), po_l10 ht hl hi hv hw hn (by omega), w64s (by omega), ← hN]
        dsimp only
        rw [ih (i + 1) _ hi (by omega) (by rw [List.length_append]; omega), List.drop_eq_getElem_cons hr, List.flatMap_cons, List.getElem_range, List.append_assoc]
      · have : i = v := by omega
        subst this
        rw [brO_neg (by omega), List.drop_of_length_le (by simp), List.flatMap_nil, List.append_nil]
  have := main n 0 [] (by omega) (by omega) (by simp)
  simpa using this
theorem po_l19 {n w : Nat} {t2 t3 t4 t12 t6 : Int} {l2 l3 l4 : List (List Int)} {v : Nat} {c : List Int} {L : List (List Int)} {k0 : List (List Int) → Option ρ} (hc : tri v c) (hv : v ≤ 40) (hw : w ≤ 40) (hn : 40 < n) (hL : L.length ≤ 2 ^ 20) :
    ref2_ProductOf_l19 n t2 l2 t3 l3 t4 l4 t6 w t12 c L 0 k0 = k0 (L ++ (List.range w).flatMap fun y => [pA w c y]) := by
  unfold ref2_ProductOf_l19
  obtain ⟨g0, g1, g2, hlen, o1, o2, o3, o4⟩ := tri_get hc
  have m0 := mul_le' (a := u3 c 0) (b := w) (by omega) (by omega) hw
  have m1 := mul_le' (a := u3 c 1) (b := w) (by omega) (by omega) hw
  have m2 := mul_le' (a := u3 c 2) (b := w) (by omega) (by omega) hw
  exact range_grow (step := fun (s : List (List Int) × Int) nx => ref2_ProductOf_s19 n t2 l2 t3 l3 t4 l4 t6 w t12 c s.1 s.2 (fun a0 a1 => nx (a0, a1)) k0) w (fun i L => (L, (i : Int))) (fun y => [pA w c y]) 1 k0 (fun _ _ => by simp)
    (fun i s nx hi hs => by
      dsimp only
      unfold ref2_ProductOf_s19
      rw [brO_pos (by omega), chk_pos (by omega), chk_pos (by omega), g0, bnd_sm, chk_pos (by omega), chk_pos (by omega), g1, bnd_sm, chk_pos (by omega), chk_pos (by omega), g2, bnd_sm, w64 (x := u3 c 0 * (w : Int)) (by omega), w64 (x := u3 c 1 * (w : Int)) (by omega), w64 (x := u3 c 2 * (w : Int)) (by omega), w64 (by omega), w64 (by omega), w64 (by omega), chk_pos rfl, chk_pos (by simp; omega), w64s (by omega)]
      rfl)
    (fun s nx => by
      dsimp only
      unfold ref2_ProductOf_s19
      rw [brO_neg (by omega)]) n L (by omega) (by omega)
theorem po_l27 {n w v : Nat} {t2 t3 t4 t6 t12 t15 : Int} {l2 l3 l4 : List (List Int)} {c d : List Int} {L : List (List Int)} {k0 : List (List Int) → Option ρ} (hc : tri v c) (hd : tri w d) (hv : v ≤ 40) (hw : w ≤ 40) (hn : 40 < n) (hL : L.length ≤ 2 ^ 20) :
    ref2_ProductOf_l27 n t2 l2 t3 l3 t4 l4 t6 w t12 c t15 d L 0 k0 = k0 (L ++ six.map (pX w c d)) := by
  unfold ref2_ProductOf_l27
  obtain ⟨g0, g1, g2, hlen, o1, o2, o3, o4⟩ := tri_get hc
  obtain ⟨f0, f1, f2, flen, p1, p2, p3, p4⟩ := tri_get hd
  have m0 := mul_le' (a := u3 c 0) (b := w) (by omega) (by omega) hw
  have m1 := mul_le' (a := u3 c 1) (b := w) (by omega) (by omega) hw
  have m2 := mul_le' (a := u3 c 2) (b := w) (by omega) (by omega) hw
  obtain ⟨nk, rfl⟩ : ∃ k, n = k + 20 := ⟨n - 20, by omega⟩
  have key : ∀ (i x y z : Nat) (s : List (List Int)) (nx : List (List Int) × Int → Option ρ), i < 6 → s.length + 1 < 2 ^ 40 → x < 3 → y < 3 → z < 3 → ref1_PermOfRank (nk + 20) 3 (i : Int) = some ([(x : Int), (y : Int), (z : Int)], 0) →
      ref2_ProductOf_s27 (nk + 20) t2 l2 t3 l3 t4 l4 t6 w t12 c t15 d s (i : Int) (fun a0 a1 => nx (a0, a1)) k0 = nx (s ++ [pX w c d (x, y, z)], ((i + 1 : Nat) : Int)) := by
    intro i x y z s nx hi hs hx hy hz he
    have get : ∀ j : Nat, j < 3 → d[j]? = some (u3 d j) ∧ 0 ≤ u3 d j ∧ u3 d j < 40 := by
      intro j hj
      rcases (show j = 0 ∨ j = 1 ∨ j = 2 by omega) with rfl | rfl | rfl
      · exact ⟨f0, by omega, by omega⟩
      · exact ⟨f1, by omega, by omega⟩
      · exact ⟨f2, by omega, by omega⟩
    have e0 : ([(x : Int), (y : Int), (z : Int)] : List Int)[0]? = some (x : Int) := rfl
    have e1 : ([(x : Int), (y : Int), (z : Int)] : List Int)[1]? = some (y : Int) := rfl
    have e2 : ([(x : Int), (y : Int), (z : Int)] : List Int)[2]? = some (z : Int) := rfl
    have el : (([(x : Int), (y : Int), (z : Int)] : List Int).length : Int) = 3 := rfl
    have q0 := get x hx
    have q1 := get y hy
    have q2 := get z hz
    unfold ref2_ProductOf_s27
    rw [brO_pos (by omega), he, bnd_sm]
    dsimp only
    rw [el, chk_pos (by omega), chk_pos (by omega), g0, bnd_sm, chk_pos (by omega), chk_pos (by omega), e0, bnd_sm, chk_pos (by omega), chk_pos (by omega), Int.toNat_natCast, q0.1, bnd_sm,
      chk_pos (by omega), chk_pos (by omega), g1, bnd_sm, chk_pos (by omega), chk_pos (by omega), e1, bnd_sm, chk_pos (by omega), chk_pos (by omega), Int.toNat_natCast, q1.1, bnd_sm,
      chk_pos (by omega), chk_pos (by omega), g2, bnd_sm, chk_pos (by omega), chk_pos (by omega), e2, bnd_sm, chk_pos (by omega), chk_pos (by omega), Int.toNat_natCast, q2.1, bnd_sm,
      w64 (x := u3 c 0 * (w : Int)) (by omega), w64 (x := u3 c 1 * (w : Int)) (by omega), w64 (x := u3 c 2 * (w : Int)) (by omega), w64 (by omega), w64 (by omega), w64 (by omega), chk_pos rfl, chk_pos (by simp; omega), w64s (by omega)]
    rfl
  have h := range_grow (step := fun (s : List (List Int) × Int) nx => ref2_ProductOf_s27 (nk + 20) t2 l2 t3 l3 t4 l4 t6 w t12 c t15 d s.1 s.2 (fun a0 a1 => nx (a0, a1)) k0) 6 (fun i L => (L, (i : Int))) (fun i => [pX w c d (six.getD i (0, 0, 0))]) 1 k0 (fun _ _ => by simp)
    (fun i s nx hi hs => by
      dsimp only
      rcases (show i = 0 ∨ i = 1 ∨ i = 2 ∨ i = 3 ∨ i = 4 ∨ i = 5 by omega) with rfl | rfl | rfl | rfl | rfl | rfl
      · exact key 0 0 1 2 s nx hi hs (by omega) (by omega) (by omega) (perm0 nk)
      · exact key 1 0 2 1 s nx hi hs (by omega) (by omega) (by omega) (perm1 nk)
      · exact key 2 1 0 2 s nx hi hs (by omega) (by omega) (by omega) (perm2 nk)
      · exact key 3 1 2 0 s nx hi hs (by omega) (by omega) (by omega) (perm3 nk)
      · exact key 4 2 0 1 s nx hi hs (by omega) (by omega) (by omega) (perm4 nk)
      · exact key 5 2 1 0 s nx hi hs (by omega) (by omega) (by omega) (perm5 nk))
    (fun s nx => by
      dsimp only
      unfold ref2_ProductOf_s27
      rw [brO_neg (by omega)]) (nk + 20) L (by omega) (by omega)
  exact h
theorem po_l23 {n w v : Nat} {t2 t4 t6 t12 : Int} {l2 l4 lb : List (List Int)} {c : List Int} {L : List (List Int)} {k0 : List (List Int) → Option ρ} (hc : tri v c) (ht : ∀ b, b ∈ lb → tri w b) (hl : lb.length ≤ 200) (hv : v ≤ 40) (hw : w ≤ 40) (hn : 2000 < n) (hL : L.length ≤ 500000) :
    ref2_ProductOf_l23 n t2 l2 w lb t4 l4 t6 w t12 c L 0 k0 = k0 (L ++ lb.flatMap fun d => six.map (pX w c d)) := by
  unfold ref2_ProductOf_l23
  have main : ∀ (m i : Nat) (s : List (List Int)), i ≤ lb.length → lb.length < i + m → s.length ≤ 500000 + 6 * i →
      iterM (fun (s : (List (List Int)) × Int) nx => ref2_ProductOf_s23 n t2 l2 w lb t4 l4 t6 w t12 c s.1 s.2 (fun a0 a1 => nx (a0, a1)) k0) m (s, (i : Int)) = k0 (s ++ (lb.drop i).flatMap fun d => six.map (pX w c d)) := by
    intro m
    induction m with
    | zero => intro i s h1 h2; omega
    | succ m ih =>
      intro i s h1 h2 h3
      rw [iterM_succ]
      dsimp only
      generalize hN : iterM (fun (s : (List (List Int)) × Int) nx => ref2_ProductOf_s23 n t2 l2 w lb t4 l4 t6 w t12 c s.1 s.2 (fun a0 a1 => nx (a0, a1)) k0) m = N
      unfold ref2_ProductOf_s23
      rcases Nat.lt_or_ge i lb.length with hi | hi
      · rw [brO_pos (by omega), chk_pos (by omega), chk_pos (by omega), Int.toNat_natCast, bnd_get hi, po_l27 hc (ht _ (List.getElem_mem hi)) hv hw (by omega) (by omega), w64s (by omega), ← hN]
        dsimp only
        rw [ih (i + 1) _ hi (by omega) (by rw [List.length_append, List.length_map]; simp only [six, List.length_cons, List.length_nil]; omega), List.drop_eq_getElem_cons hi, List.flatMap_cons, List.append_assoc]
      · have : i = lb.length := by omega
        subst this
        rw [brO_neg (by omega), List.drop_length, List.flatMap_nil, List.append_nil]
  exact main n 0 L (by omega) (by omega) (by omega)
theorem flat1' {v : Nat} {g : Nat → List Int} : ((List.range v).flatMap fun x => [g x]).length = v := flat1
theorem po_l15 {n w v : Nat} {t4 t6 p : Int} {l4 la lb : List (List Int)} {L : List (List Int)} {k0 : List (List Int) → Option ρ} (ha : ∀ b, b ∈ la → tri v b) (ht : ∀ b, b ∈ lb → tri w b) (hla : la.length ≤ 200) (hl : lb.length ≤ 200) (hv : v ≤ 40) (hw : w ≤ 40) (hn : 2000 < n) (hL : L.length ≤ 10000) :
    ref2_ProductOf_l15 n p la w lb t4 l4 t6 w L 0 k0 = k0 (L ++ la.flatMap fun c => ((List.range w).flatMap fun y => [pA w c y]) ++ lb.flatMap fun d => six.map (pX w c d)) := by
  unfold ref2_ProductOf_l15
  have hsix : ∀ c, (lb.flatMap fun d => six.map (pX w c d)).length ≤ 1200 := by
    intro c
    have := flat_len' (g := fun d => six.map (pX w c d)) (c := 6) (l := lb) (fun _ _ => by simp [six])
    omega
  have main : ∀ (m i : Nat) (s : List (List Int)), i ≤ la.length → la.length < i + m → s.length ≤ 10000 + 1240 * i →
      iterM (fun (s : (List (List Int)) × Int) nx => ref2_ProductOf_s15 n p la w lb t4 l4 t6 w s.1 s.2 (fun a0 a1 => nx (a0, a1)) k0) m (s, (i : Int)) = k0 (s ++ (la.drop i).flatMap fun c => ((List.range w).flatMap fun y => [pA w c y]) ++ lb.flatMap fun d => six.map (pX w c d)) := by
    intro m
    induction m with
    | zero => intro i s h1 h2; omega
    | succ m ih =>
      intro i s h1 h2 h3
      rw [iterM_succ]
      dsimp only
      generalize hN : iterM (fun (s : (List (List Int)) × Int) nx => ref2_ProductOf_s15 n p la w lb t4 l4 t6 w s.1 s.2 (fun a0 a1 => nx (a0, a1)) k0) m = N
      unfold ref2_ProductOf_s15
      rcases Nat.lt_or_ge i la.length with hi | hi
      · have hc := ha _ (List.getElem_mem hi)
        have hx := hsix la[i]
        rw [brO_pos (by omega), chk_pos (by omega), chk_pos (by omega), Int.toNat_natCast, bnd_get hi, po_l19 hc hv hw (by omega) (by omega), po_l23 hc ht hl hv hw hn (by rw [List.length_append, flat1']; omega), w64s (by omega), ← hN]
        dsimp only
        rw [ih (i + 1) _ hi (by omega) (by rw [List.length_append, List.length_append, flat1']; omega), List.drop_eq_getElem_cons hi, List.flatMap_cons]
        simp only [List.append_assoc]
      · have : i = la.length := by omega
        subst this
        rw [brO_neg (by omega), List.drop_length, List.flatMap_nil, List.append_nil]
  exact main n 0 L (by omega) (by omega) (by omega)
def QL (v w : Nat) (la lb : List (List Int)) : List (List Int) := ((List.range v).flatMap fun x => lb.flatMap fun c => [pB w c x]) ++ la.flatMap fun c => ((List.range w).flatMap fun y => [pA w c y]) ++ lb.flatMap fun d => six.map (pX w c d)
theorem QL_PL (v w : Nat) (la lb : List (List Int)) : ((QL v w la lb).map sortI).Perm (PL v w la lb) := by
  unfold QL PL
  rw [List.map_append]
  refine List.Perm.append ?_ (List.Perm.of_eq ?_)
  · rw [List.map_flatMap]
    have h1 : (fun a : Nat => List.map sortI (List.flatMap (fun c => [pB w c a]) lb)) = fun x => lb.flatMap fun c => [sortI (pB w c x)] := by
      funext x
      rw [List.map_flatMap]
      rfl
    rw [h1]
    exact flatMap_swap (fun (x : Nat) (c : List Int) => sortI (pB w c x)) (List.range v) lb
  · rw [List.map_flatMap]
    congr 1
    funext c
    rw [List.map_append, List.map_flatMap, List.map_flatMap]
    congr 1
theorem ProductOf_eq {n v w : Nat} {la lb : List (List Int)} (ha : ∀ b, b ∈ la → tri v b) (ht : ∀ b, b ∈ lb → tri w b) (hla : la.length ≤ 200) (hl : lb.length ≤ 200) (hv : v ≤ 40) (hw : w ≤ 40) (hn : 300000 < n) :
    ref2_ProductOf n v la w lb = some (if (v : Int) * w > 33 then (0, [], 3) else ((v : Int) * w, sortL (PL v w la lb), 0)) := by
  unfold ref2_ProductOf
  have hm := mul_le hv hw
  have e : IntKind.i64.wrap ((v : Int) * (w : Int)) = (v : Int) * w := w64 (by omega)
  rw [e]
  by_cases hvw : (v : Int) * w > 33
  · rw [brO_pos hvw, if_pos hvw]
  · rw [brO_neg hvw, if_neg hvw, po_l7 ht hl hv hw (by omega)]
    have hx : ((List.range v).flatMap fun x => lb.flatMap fun c => [pB w c x]).length ≤ 8000 := by
      have := flat_len' (g := fun x : Nat => lb.flatMap fun c => [pB w c x]) (c := 200) (l := List.range v) (fun x _ => by
        have := flat_len' (g := fun c => [pB w c x]) (c := 1) (l := lb) (fun _ _ => by simp)
        omega)
      rw [List.length_range] at this
      omega
    rw [po_l15 ha ht hla hl hv hw (by omega) (by omega)]
    show bnd (ref2_InOrder n (QL v w la lb)) _ = _
    have hp := QL_PL v w la lb
    have hlen : (QL v w la lb).length ≤ 300000 := by
      have h1 := hp.length_eq
      rw [List.length_map] at h1
      have := (PL_len hv hw hla hl).2
      omega
    have hrow : ∀ b, b ∈ QL v w la lb → b.length = 3 := by
      intro b hb
      have h1 := PL_rows _ (hp.mem_iff.1 (List.mem_map_of_mem (f := sortI) hb))
      rwa [sortI_len] at h1
    rw [InOrder_eq (by omega) (by omega) (fun b hb => by have := hrow b hb; omega), bnd_sm, sortL_perm hp]
end
end Go.Gl
