/-
  L9: the passes that the document counts, as a sum.
  Conditions: none; plain laws.
-/
import Derived.Test.YtjneiglpfdkehaaL8
namespace Go.Gl
open Go Go.Gx Go.Gm
section
variable {ρ : Type}
/-- How many points two blocks have together. -/
def tog (a b : List Int) : Nat := a.countP fun x => decide (x ∈ b)
theorem Together_eq {n : Nat} {a b : List Int} (ha : a.length ≤ 9223372036854775807) (hna : a.length < n) (hb : b.length ≤ 9223372036854775807) (hnb : b.length < n) : ref2_Together n a b = some (tog a b : Int) := by
  unfold ref2_Together ref2_Together_l3
  refine (iter_list a (fun i (s : Int) => (s, (i : Int))) (fun x s nx => if decide (x ∈ b) = true then nx (IntKind.i64.wrap (s + 1)) else nx s) (fun s => some s) ?_ ?_ n 0 0 (Nat.zero_le _) (by omega)).trans ?_
  · intro i s nx hi
    unfold ref2_Together_s3
    simp (disch := omega) only [brO_pos, chk_pos, bnd_get, Int.toNat_natCast, w64s]
    rw [Lies_eq hb hnb, bnd_sm, brO_if]
  · intro s nx
    unfold ref2_Together_s3
    rw [brO_neg (by omega)]
  · rw [List.drop_zero]
    have := foldO_countW (ρ := Int) (fun x => decide (x ∈ b)) (fun s => some s) a 0 (by omega)
    rw [Nat.zero_add] at this
    exact this
/-! ### pasch -/
def mk (q : Nat) (c : Nat → Nat) : List Int := (List.range q).map fun y => (c y : Int)
theorem mk_len (q : Nat) (c : Nat → Nat) : (mk q c).length = q := by simp [mk]
theorem mk_get {q : Nat} {c : Nat → Nat} {x : Nat} (hx : x < q) : (mk q c)[x]? = some (c x : Int) := by simp [mk, hx]
theorem mk_congr {q : Nat} {c d : Nat → Nat} (h : ∀ x, x < q → c x = d x) : mk q c = mk q d := by
  unfold mk
  exact List.map_congr_left fun x hx => by rw [h x (List.mem_range.1 hx)]
theorem mk_set {q : Nat} {c : Nat → Nat} {x : Nat} : (mk q c).set x ((c x + 1 : Nat) : Int) = mk q fun y => c y + if y = x then 1 else 0 := by
  apply List.ext_getElem?
  intro i
  rw [List.getElem?_set, mk_len]
  by_cases hi : i < q
  · by_cases h : x = i
    · subst h
      rw [if_pos rfl, if_pos hi, mk_get hi, if_pos rfl]
    · rw [if_neg h, mk_get hi, mk_get hi, if_neg (Ne.symm h)]
      simp
  · have h1 : (mk q c)[i]? = none := List.getElem?_eq_none (by rw [mk_len]; omega)
    have h2 : (mk q fun y => c y + if y = x then 1 else 0)[i]? = none := List.getElem?_eq_none (by rw [mk_len]; omega)
    rw [h1, h2]
    split
    · split
      · omega
      · rfl
    · rfl
theorem pa_step {n q : Nat} {four : List Int} {p : Int} {l : List (List Int)} {i : Nat} {m : Nat} {b : List Int} {c : Nat → Nat} {j x : Nat} {next : List Int → Int → Option ρ} {k0 : List Int → Option ρ} (h0 : four[i]? = some (m : Int)) (h1 : l[m]? = some b)
    (hj : j < 3) (hb : b[j]? = some (x : Int)) (hx : x < q) (hc : c x ≤ 1000) (hf : four.length ≤ 9223372036854775807) (hl : l.length ≤ 9223372036854775807) (hbl : b.length ≤ 9223372036854775807) :
    ref2_pasch_s6 n four p l (i : Int) (mk q c) (j : Int) next k0 = next (mk q fun y => c y + if y = x then 1 else 0) ((j + 1 : Nat) : Int) := by
  have hi : i < four.length := (List.getElem?_eq_some_iff.1 h0).1
  have hm : m < l.length := (List.getElem?_eq_some_iff.1 h1).1
  have hjb : j < b.length := (List.getElem?_eq_some_iff.1 hb).1
  have hk := mk_len q c
  unfold ref2_pasch_s6
  simp (disch := omega) only [brO_pos, chk_pos, Int.toNat_natCast, h0, h1, hb, bnd_sm, w64s]
  rw [mk_get hx, bnd_sm]
  rw [w64s (by omega), mk_set]
theorem pa_l6 {n q : Nat} {four : List Int} {p : Int} {l : List (List Int)} {i : Nat} {m : Nat} {b : List Int} {c : Nat → Nat} {k0 : List Int → Option ρ} (h0 : four[i]? = some (m : Int)) (h1 : l[m]? = some b) (hb : tri q b) (hc : ∀ x, c x ≤ 900) (hf : four.length ≤ 9223372036854775807)
    (hl : l.length ≤ 9223372036854775807) (hn : 3 < n) :
    ref2_pasch_l6 n four p l (i : Int) (mk q c) 0 k0 = k0 (mk q fun y => c y + if (y : Int) ∈ b then 1 else 0) := by
  obtain ⟨x, y, z, rfl, g0, g1, g2, g3⟩ := hb
  obtain ⟨x, rfl⟩ := Int.eq_ofNat_of_zero_le g0
  obtain ⟨y, rfl⟩ := Int.eq_ofNat_of_zero_le (show 0 ≤ y by omega)
  obtain ⟨z, rfl⟩ := Int.eq_ofNat_of_zero_le (show 0 ≤ z by omega)
  have hbl : [(x : Int), (y : Int), (z : Int)].length ≤ 9223372036854775807 := by simp
  unfold ref2_pasch_l6
  refine (iter_range 3 (fun j (s : List Int) => (s, (j : Int))) (fun j s nx => ref2_pasch_s6 n four p l (i : Int) s (j : Int) (fun a _ => nx a) k0) k0 ?_ ?_ n 0 (mk q c) (by omega) (by omega)).trans ?_
  · intro j s nx hj
    unfold ref2_pasch_s6
    rw [brO_pos (by omega), brO_pos (by omega), w64s (by omega)]
  · intro s nx
    unfold ref2_pasch_s6
    rw [brO_neg (by omega)]
  · have e : List.range' 0 (3 - 0) = [0, 1, 2] := rfl
    have := hc x; have := hc y; have := hc z
    rw [e, foldO_cons, pa_step h0 h1 (by omega) (x := x) rfl (by omega) (by omega) hf hl hbl]
    rw [foldO_cons, pa_step h0 h1 (by omega) (x := y) rfl (by omega) (by split <;> omega) hf hl hbl]
    rw [foldO_cons, pa_step h0 h1 (by omega) (x := z) rfl (by omega) (by split <;> split <;> omega) hf hl hbl]
    rw [foldO_nil]
    congr 1
    refine mk_congr fun w hw => ?_
    simp only [List.mem_cons, List.not_mem_nil, or_false]
    by_cases e1 : w = x
    · rw [if_pos e1, if_neg (by omega), if_neg (by omega), if_pos (by omega)]
    · by_cases e2 : w = y
      · rw [if_neg e1, if_pos e2, if_neg (by omega), if_pos (by omega)]
      · by_cases e3 : w = z
        · rw [if_neg e1, if_neg e2, if_pos e3, if_pos (by omega)]
        · rw [if_neg e1, if_neg e2, if_neg e3, if_neg (by omega)]
/-- In how many of four blocks a point lies. -/
def deg (a b c d : List Int) (y : Nat) : Nat := (if (y : Int) ∈ a then 1 else 0) + (if (y : Int) ∈ b then 1 else 0) + (if (y : Int) ∈ c then 1 else 0) + (if (y : Int) ∈ d then 1 else 0)
def psch (q : Nat) (a b c d : List Int) : Bool := (List.range q).all fun y => deg a b c d y == 0 || deg a b c d y == 2
theorem pasch_eq {n q : Nat} {l : List (List Int)} {i j k m : Nat} {a b c d : List Int} (ha : l[i]? = some a) (hb : l[j]? = some b) (hc : l[k]? = some c) (hd : l[m]? = some d) (ta : tri q a) (tb : tri q b) (tc : tri q c) (td : tri q d)
    (hl : l.length ≤ 9223372036854775807) (hq : q ≤ 40) (hn : 40 < n) : ref2_pasch n (q : Int) l [(i : Int), (j : Int), (k : Int), (m : Int)] = some (psch q a b c d) := by
  unfold ref2_pasch
  rw [chk_pos rfl, chk_pos (by omega), chk_pos (by omega)]
  have hz : List.replicate (q : Int).toNat (0 : Int) = mk q fun _ => 0 := by
    unfold mk
    apply List.ext_getElem?
    intro i
    by_cases hi : i < q <;> simp [hi, List.getElem?_replicate]
  have hf : [(i : Int), (j : Int), (k : Int), (m : Int)].length ≤ 9223372036854775807 := by simp
  rw [hz]
  unfold ref2_pasch_l3
  refine (iter_range 4 (fun j (s : List Int) => (s, (j : Int))) (fun t s nx => ref2_pasch_l6 n [(i : Int), (j : Int), (k : Int), (m : Int)] (q : Int) l (t : Int) s 0 nx) (fun x6' => ref2_pasch_l10 n (q : Int) l x6' 0 (some false) (some true)) ?_ ?_ n 0 (mk q fun _ => 0) (by omega) (by omega)).trans ?_
  · intro j s nx hj
    unfold ref2_pasch_s3
    rw [brO_pos (by omega), w64s (by omega)]
  · intro s nx
    unfold ref2_pasch_s3
    rw [brO_neg (by omega)]
  · have e : List.range' 0 (4 - 0) = [0, 1, 2, 3] := rfl
    rw [e, foldO_cons, pa_l6 (i := 0) rfl ha ta (fun _ => by omega) hf hl (by omega)]
    rw [foldO_cons, pa_l6 (i := 1) rfl hb tb (fun _ => by split <;> omega) hf hl (by omega)]
    rw [foldO_cons, pa_l6 (i := 2) rfl hc tc (fun _ => by split <;> split <;> omega) hf hl (by omega)]
    rw [foldO_cons, pa_l6 (i := 3) rfl hd td (fun _ => by split <;> split <;> split <;> omega) hf hl (by omega)]
    rw [foldO_nil]
    have hdeg : (mk q fun y => 0 + (if (y : Int) ∈ a then 1 else 0) + (if (y : Int) ∈ b then 1 else 0) + (if (y : Int) ∈ c then 1 else 0) + (if (y : Int) ∈ d then 1 else 0)) = mk q (deg a b c d) := mk_congr fun y _ => by unfold deg; omega
    rw [hdeg]
    have hk := mk_len q (deg a b c d)
    unfold ref2_pasch_l10
    refine (iter_range q (fun i (_ : Unit) => (i : Int)) (fun y _ nx => if (!(deg a b c d y == 0 || deg a b c d y == 2)) = true then some false else nx ()) (fun _ => some true) ?_ ?_ n 0 () (Nat.zero_le _) (by omega)).trans ?_
    · intro y s nx hy
      unfold ref2_pasch_s10
      have hg := mk_get (c := deg a b c d) hy
      simp (disch := omega) only [brO_pos, chk_pos, Int.toNat_natCast, hg, bnd_sm, w64s]
      rw [brO_if, brO_if]
      by_cases e0 : deg a b c d y = 0
      · simp [e0]
      · by_cases e2 : deg a b c d y = 2
        · simp [e2]
        · have h1 : ¬ ((deg a b c d y : Int) = 0) := by omega
          have h2 : ¬ ((deg a b c d y : Int) = 2) := by omega
          simp [e0, e2, h1, h2]
    · intro s nx
      unfold ref2_pasch_s10
      rw [brO_neg (by omega)]
    · rw [foldO_any, Nat.sub_zero, ← List.range_eq_range', List.any_eq_not_all_not]
      simp only [Bool.not_not]
      unfold psch
      cases (List.range q).all fun y => deg a b c d y == 0 || deg a b c d y == 2 <;> rfl
/-! ### The document's sum -/
def pf (q : Nat) (l : List (List Int)) (i j k m : Nat) : Nat := if psch q (l.getD i []) (l.getD j []) (l.getD k []) (l.getD m []) = true then 1 else 0
def tg (l : List (List Int)) (i j : Nat) : Bool := tog (l.getD i []) (l.getD j []) == 1
def pf3 (q : Nat) (l : List (List Int)) (i j k : Nat) : Nat := S (l.length - (k + 1)) fun m => pf q l i j k (k + 1 + m)
def pf2 (q : Nat) (l : List (List Int)) (i j : Nat) : Nat := S (l.length - (j + 1)) fun k => if tg l i (j + 1 + k) = true ∧ tg l j (j + 1 + k) = true then pf3 q l i j (j + 1 + k) else 0
def pf1 (q : Nat) (l : List (List Int)) (i : Nat) : Nat := S (l.length - (i + 1)) fun j => if tg l i (i + 1 + j) = true then pf2 q l i (i + 1 + j) else 0
def passes (q : Nat) (l : List (List Int)) : Nat := S l.length fun i => pf1 q l i
theorem pf_le (q : Nat) (l : List (List Int)) (i j k m : Nat) : pf q l i j k m ≤ 1 := by unfold pf; split <;> omega
theorem S_bound {f : Nat → Nat} {n c N : Nat} (h : ∀ i, i < n → f i ≤ c) (hn : n ≤ N) : S n f ≤ N * c := by
  have := S_le n h
  rw [S_const] at this
  exact Nat.le_trans this (Nat.mul_le_mul_right _ hn)
theorem pf3_le {q : Nat} {l : List (List Int)} (hl : l.length ≤ 200) (i j k : Nat) : pf3 q l i j k ≤ 200 := by
  have := S_bound (N := 200) (f := fun m => pf q l i j k (k + 1 + m)) (n := l.length - (k + 1)) (c := 1) (fun _ _ => pf_le _ _ _ _ _ _) (by omega)
  unfold pf3; omega
theorem pf2_le {q : Nat} {l : List (List Int)} (hl : l.length ≤ 200) (i j : Nat) : pf2 q l i j ≤ 40000 :=
  S_bound (N := 200) (c := 200) (fun k _ => by split; exact pf3_le hl _ _ _; omega) (by omega)
theorem pf1_le {q : Nat} {l : List (List Int)} (hl : l.length ≤ 200) (i : Nat) : pf1 q l i ≤ 8000000 :=
  S_bound (N := 200) (c := 40000) (fun k _ => by split; exact pf2_le hl _ _; omega) (by omega)
theorem getD_get {l : List (List Int)} {i : Nat} (hi : i < l.length) : l[i]? = some (l.getD i []) := by
  rw [List.getElem?_eq_getElem hi]
  simp [List.getD, List.getElem?_eq_getElem hi]
theorem tg_bne (l : List (List Int)) (i j : Nat) : ((tog (l.getD i []) (l.getD j []) : Int) != 1) = !(tg l i j) := by
  unfold tg
  rw [Bool.eq_iff_iff]
  simp
  omega
theorem po_l18 {n q : Nat} {l : List (List Int)} (h : okB n l) (hn : 200 < n) (hq : q ≤ 40) (hl : l.length ≤ 200) (ht : ∀ b, b ∈ l → tri q b) {i j k s : Nat} (hi : i < l.length) (hj : j < l.length) (hk : k < l.length) (hs : s ≤ 4000000000) (k0 : Int → Option ρ) :
    ref2_PassesOf_l18 n (q : Int) l (l.length : Int) (i : Int) (j : Int) (k : Int) (s : Int) ((k + 1 : Nat) : Int) k0 = k0 ((s + pf3 q l i j k : Nat) : Int) := by
  unfold ref2_PassesOf_l18
  have hti : ∀ i, i < l.length → tri q (l.getD i []) := fun i hi => ht _ (List.mem_of_getElem? (getD_get hi))
  refine (iter_range l.length (fun j (s : Int) => (s, (j : Int))) (fun m s nx => ref2_PassesOf_s18 n (q : Int) l (l.length : Int) (i : Int) (j : Int) (k : Int) s (m : Int) (fun a _ => nx a) k0) k0 ?_ ?_ n (k + 1) (s : Int) (by omega) (by omega)).trans ?_
  · intro j s nx hj
    unfold ref2_PassesOf_s18
    rw [brO_pos (by omega), brO_pos (by omega), w64s (by omega)]
  · intro s nx
    unfold ref2_PassesOf_s18
    rw [brO_neg (by omega)]
  · refine (foldO_rsum (fun m => pf q l i j k m) 1 5000000000 (l.length - (k + 1)) (k + 1) s (by omega) (fun m _ _ => pf_le _ _ _ _ _ _) ?_).trans rfl
    intro m c nx hm1 hm2 hc
    have hm : m < l.length := by omega
    unfold ref2_PassesOf_s18
    rw [brO_pos (by omega), pasch_eq (getD_get hi) (getD_get hj) (getD_get hk) (getD_get hm) (hti i hi) (hti j hj) (hti k hk) (hti m hm) h.1 hq (by omega), bnd_sm, brO_if]
    unfold pf
    split
    · rw [w64s (by omega)]
    · rfl
theorem po_tog {n : Nat} {l : List (List Int)} (h : okB n l) {i j : Nat} (hi : i < l.length) (hj : j < l.length) : ref2_Together n (l.getD i []) (l.getD j []) = some (tog (l.getD i []) (l.getD j []) : Int) := by
  have h1 := h.2.2 _ (List.mem_of_getElem? (getD_get hi))
  have h2 := h.2.2 _ (List.mem_of_getElem? (getD_get hj))
  exact Together_eq h1.1 h1.2 h2.1 h2.2
theorem po_l12 {n q : Nat} {l : List (List Int)} (h : okB n l) (hn : 200 < n) (hq : q ≤ 40) (hl : l.length ≤ 200) (ht : ∀ b, b ∈ l → tri q b) {i j s : Nat} (hi : i < l.length) (hj : j < l.length) (hs : s ≤ 2000000000) (k0 : Int → Option ρ) :
    ref2_PassesOf_l12 n (q : Int) l (l.length : Int) (i : Int) (j : Int) (s : Int) ((j + 1 : Nat) : Int) k0 = k0 ((s + pf2 q l i j : Nat) : Int) := by
  unfold ref2_PassesOf_l12
  refine (iter_range l.length (fun j (s : Int) => (s, (j : Int))) (fun m s nx => ref2_PassesOf_s12 n (q : Int) l (l.length : Int) (i : Int) (j : Int) s (m : Int) (fun a _ => nx a) k0) k0 ?_ ?_ n (j + 1) (s : Int) (by omega) (by omega)).trans ?_
  · intro j s nx hj
    unfold ref2_PassesOf_s12
    rw [brO_pos (by omega), brO_pos (by omega), w64s (by omega)]
  · intro s nx
    unfold ref2_PassesOf_s12
    rw [brO_neg (by omega)]
  · refine (foldO_rsum (fun k => if tg l i k = true ∧ tg l j k = true then pf3 q l i j k else 0) 200 3000000000 (l.length - (j + 1)) (j + 1) s (by omega) (fun m _ _ => by split; exact pf3_le hl _ _ _; omega) ?_).trans rfl
    intro k c nx hk1 hk2 hc
    have hk : k < l.length := by omega
    unfold ref2_PassesOf_s12
    have gi := getD_get hi
    have gj := getD_get hj
    have gk := getD_get hk
    simp (disch := omega) only [brO_pos, chk_pos, Int.toNat_natCast, gi, gj, gk, bnd_sm, w64s]
    rw [po_tog h hi hk, bnd_sm, po_tog h hj hk, bnd_sm, brO_if, brO_if, tg_bne, tg_bne]
    cases tg l i k with
    | false => simp
    | true =>
      cases tg l j k with
      | false => simp
      | true =>
        simp only [Bool.not_true, Bool.false_eq_true, if_false, and_self, if_true]
        exact po_l18 h hn hq hl ht hi hj hk (by omega) _
theorem po_l7 {n q : Nat} {l : List (List Int)} (h : okB n l) (hn : 200 < n) (hq : q ≤ 40) (hl : l.length ≤ 200) (ht : ∀ b, b ∈ l → tri q b) {i s : Nat} (hi : i < l.length) (hs : s ≤ 1700000000) (k0 : Int → Option ρ) :
    ref2_PassesOf_l7 n (q : Int) l (l.length : Int) (i : Int) (s : Int) ((i + 1 : Nat) : Int) k0 = k0 ((s + pf1 q l i : Nat) : Int) := by
  unfold ref2_PassesOf_l7
  refine (iter_range l.length (fun j (s : Int) => (s, (j : Int))) (fun m s nx => ref2_PassesOf_s7 n (q : Int) l (l.length : Int) (i : Int) s (m : Int) (fun a _ => nx a) k0) k0 ?_ ?_ n (i + 1) (s : Int) (by omega) (by omega)).trans ?_
  · intro j s nx hj
    unfold ref2_PassesOf_s7
    rw [brO_pos (by omega), brO_pos (by omega), w64s (by omega)]
  · intro s nx
    unfold ref2_PassesOf_s7
    rw [brO_neg (by omega)]
  · refine (foldO_rsum (fun j => if tg l i j = true then pf2 q l i j else 0) 40000 1800000000 (l.length - (i + 1)) (i + 1) s (by omega) (fun m _ _ => by split; exact pf2_le hl _ _; omega) ?_).trans rfl
    intro j c nx hj1 hj2 hc
    have hj : j < l.length := by omega
    unfold ref2_PassesOf_s7
    have gi := getD_get hi
    have gj := getD_get hj
    simp (disch := omega) only [brO_pos, chk_pos, Int.toNat_natCast, gi, gj, bnd_sm, w64s]
    rw [po_tog h hi hj, bnd_sm, brO_if, tg_bne]
    cases tg l i j with
    | false => simp
    | true =>
      simp only [Bool.not_true, Bool.false_eq_true, if_false, if_true]
      exact po_l12 h hn hq hl ht hi hj (by omega) _
theorem PassesOf_eq {n q : Nat} {l : List (List Int)} (h : okB n l) (hn : 200 < n) (hq : q ≤ 40) (hl : l.length ≤ 200) (ht : ∀ b, b ∈ l → tri q b) : ref2_PassesOf n (q : Int) l = some (passes q l : Int) := by
  unfold ref2_PassesOf ref2_PassesOf_l4
  refine (iter_range l.length (fun j (s : Int) => (s, (j : Int))) (fun m s nx => ref2_PassesOf_s4 n (q : Int) l (l.length : Int) s (m : Int) (fun a _ => nx a) (fun x => some x)) (fun x => some x) ?_ ?_ n 0 0 (by omega) (by omega)).trans ?_
  · intro j s nx hj
    unfold ref2_PassesOf_s4
    rw [brO_pos (by omega), brO_pos (by omega), w64s (by omega)]
  · intro s nx
    unfold ref2_PassesOf_s4
    rw [brO_neg (by omega)]
  · have := foldO_rsum (ρ := Int) (F := fun m s nx => ref2_PassesOf_s4 n (q : Int) l (l.length : Int) s (m : Int) (fun a _ => nx a) (fun x => some x)) (k := fun x => some x) (fun i => pf1 q l i) 8000000 1700000000 l.length 0 0 (by omega) (fun i _ _ => pf1_le hl i) ?_
    · simp only [Nat.zero_add] at this
      exact this
    · intro i c nx _ hi hc
      unfold ref2_PassesOf_s4
      rw [brO_pos (by omega), w64s (by omega), po_l7 h hn hq hl ht (by omega) hc]
end
end Go.Gl
