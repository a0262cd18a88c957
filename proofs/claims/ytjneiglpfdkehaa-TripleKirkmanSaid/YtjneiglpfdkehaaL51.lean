/-
  L51: the level of a design in which each two points lie in as many blocks.
  Conditions: none; plain laws.
-/
import Derived.Test.YtjneiglpfdkehaaL50
namespace Go.Gl
open Go Go.Gx Go.Gm
section
variable {ρ : Type}
theorem chsL_mem {f : Int → Int → List Int} {s x : Int} : ∀ {k : Nat} {p : Int}, x ∈ chsL f s k p ↔ ∃ j : Nat, j < k ∧ x ∈ f (p + j + 1) (bitOr s (p + j))
  | 0, p => by simp [chsL]
  | k + 1, p => by
    rw [chsL, List.mem_append, chsL_mem]
    constructor
    · rintro (h | ⟨j, hj, h⟩)
      · exact ⟨0, by omega, by simpa using h⟩
      · exact ⟨j + 1, by omega, by
          have e : p + ((j + 1 : Nat) : Int) = p + 1 + j := by omega
          rw [e]; exact h⟩
    · rintro ⟨j, hj, h⟩
      cases j with
      | zero => exact .inl (by simpa using h)
      | succ j => exact .inr ⟨j, by omega, by
          have e : p + ((j + 1 : Nat) : Int) = p + 1 + j := by omega
          rw [e] at h; exact h⟩
theorem chs2 {v x : Int} (h : x ∈ chs v 2 0 0) : ∃ p q : Int, 0 ≤ p ∧ p < q ∧ q < v ∧ x = bitOr (bitOr 0 p) q := by
  rw [chs, chsL_mem] at h
  obtain ⟨i, hi, h⟩ := h
  rw [chs, chsL_mem] at h
  obtain ⟨j, hj, h⟩ := h
  rw [chs, List.mem_singleton] at h
  refine ⟨0 + i, 0 + i + 1 + j, by omega, by omega, ?_, h⟩
  simp only [Int.natCast_one] at hi
  omega
theorem chs2_ne {v : Int} (h : 2 ≤ v) : chs v 2 0 0 ≠ [] := by
  intro e
  have : bitOr (bitOr 0 (0 + (0 : Nat))) (0 + (0 : Nat) + 1 + (0 : Nat)) ∈ chs v 2 0 0 := by
    rw [chs, chsL_mem]
    refine ⟨0, by simp only [Int.natCast_one]; omega, ?_⟩
    rw [chs, chsL_mem]
    exact ⟨0, by simp; omega, by rw [chs, List.mem_singleton]⟩
  rw [e] at this
  cases this
theorem lv_l16 {n : Nat} {t4 t5 t6 t8 t9 x : Int} {l : List Int} (hl : l.length ≤ 200) (hn : 200 < n) (k0 : Int → Option ρ) :
    design_Level_l16 n t4 t5 t6 t8 t9 l x (l.length : Int) 0 0 k0 = k0 ((l.countP fun m => (IntKind.u64.wrap ((BitVec.ofInt 64 m &&& BitVec.ofInt 64 x).toNat : Int)) == x : Nat) : Int) := by
  unfold design_Level_l16
  refine (iter_list l (fun i (s : Int) => (s, (i : Int))) (fun m s nx => if ((IntKind.u64.wrap ((BitVec.ofInt 64 m &&& BitVec.ofInt 64 x).toNat : Int)) == x) = true then nx (IntKind.i64.wrap (s + 1)) else nx s) k0 ?_ ?_ n 0 0 (Nat.zero_le _) (by omega)).trans ?_
  · intro i s nx h
    unfold design_Level_s16
    simp (disch := omega) only [brO_pos, chk_pos, bnd_get, w64s, Int.toNat_natCast]
    rw [brO_if]
  · intro s nx
    unfold design_Level_s16
    simp (disch := omega) only [brO_neg]
  · rw [List.drop_zero]
    have := foldO_countW (fun m => (IntKind.u64.wrap ((BitVec.ofInt 64 m &&& BitVec.ofInt 64 x).toNat : Int)) == x) k0 l 0 (by omega)
    simpa using this
theorem lv_rs {n : Nat} {t4 t5 t6 t8 s : Int} {l : List (List Int)} {v : Nat} {c : Nat} (hv : v ≤ 40) (hl : l.length ≤ 200) (hn : 200 < n) (hb : ∀ b, b ∈ l → ∀ x, x ∈ b → 0 ≤ x ∧ x < (v : Int)) (hc : ∀ p q : Nat, p < q → q < v → cnt p q l = c) (hs : s = -1 ∨ s = c)
    {x : Int} (hx : x ∈ chs v 2 0 0) (next : Int → Option ρ) (kx : Int → Int → Int → Option ρ) : design_Level_rs n t4 t5 t6 t8 (l.map mask) x s next kx = next c := by
  obtain ⟨p, q, h0, h1, h2, rfl⟩ := chs2 hx
  unfold design_Level_rs
  have hlen : (l.map mask).length ≤ 200 := by rw [List.length_map]; exact hl
  rw [lv_l16 hlen hn]
  have hcount : ((l.map mask).countP fun m => (IntKind.u64.wrap ((BitVec.ofInt 64 m &&& BitVec.ofInt 64 (bitOr (bitOr 0 p) q)).toNat : Int)) == bitOr (bitOr 0 p) q) = c := by
    rw [List.countP_map]
    have h3 := hc p.toNat q.toNat (by omega) (by omega)
    rw [Int.toNat_of_nonneg h0, Int.toNat_of_nonneg (by omega)] at h3
    rw [← h3]
    unfold cnt
    refine List.countP_congr fun b hbm => ?_
    have := both_eq (b := b) (fun y hy => by have := hb b hbm y hy; omega) (p := p) (q := q) (by omega) (by omega)
    simp only [Function.comp]
    rw [this]
    rfl
  rw [hcount]
  rcases hs with rfl | rfl
  · rfl
  · rw [brO_pos (by omega)]
    simp [brO]
theorem lv_range {n : Nat} {t4 t5 t6 t8 : Int} {l : List (List Int)} {v : Nat} {c : Nat} (hv : v ≤ 40) (hl : l.length ≤ 200) (hn : 200 < n) (hb : ∀ b, b ∈ l → ∀ x, x ∈ b → 0 ≤ x ∧ x < (v : Int)) (hc : ∀ p q : Nat, p < q → q < v → cnt p q l = c)
    (k1 : Int × Int × Int → Option ρ) (k : Int → Option ρ) : ∀ (xs : List Int) (s : Int), (∀ x, x ∈ xs → x ∈ chs v 2 0 0) → (s = -1 ∨ s = c) →
      rangeC (fun xx (s : Int) nx (kx : (Int × Int × Int) → Option ρ) => design_Level_rs n t4 t5 t6 t8 (l.map mask) xx s nx (fun a0 a1 a2 => kx (a0, a1, a2))) k1 xs s k = k (if xs = [] then s else c)
  | [], s, _, _ => rfl
  | x :: xs, s, h, hs => by
    rw [rangeC, lv_rs hv hl hn hb hc hs (h x (List.mem_cons_self ..)), lv_range hv hl hn hb hc k1 k xs c (fun y hy => h y (List.mem_cons_of_mem _ hy)) (.inr rfl)]
    simp
theorem lvIndex_eq {n : Nat} {l : List (List Int)} {k : Int} (hl : l.length ≤ 200) (hn : 200 < n) : slices_IndexFunc_intint__design_Level_1 n l k = some (findI (fun b : List Int => (b.length : Int) != k) 0 l) := by
  unfold slices_IndexFunc_intint__design_Level_1 slices_IndexFunc_intint__design_Level_1_l2
  refine (iter_idx l (fun i (_ : Unit) => (i : Int)) (fun i (v : List Int) s nx => if ((v.length : Int) != k) = true then some (i : Int) else nx s) (fun _ => some (-1)) ?_ ?_ n 0 () (Nat.zero_le _) (by omega)).trans ?_
  · intro i s nx h
    unfold slices_IndexFunc_intint__design_Level_1_s2 design_Level_1
    simp (disch := omega) only [brO_pos, chk_pos, bnd_get, w64s, Int.toNat_natCast, bnd_sm]
    simp only [brO_if]
  · intro s nx
    unfold slices_IndexFunc_intint__design_Level_1_s2
    simp (disch := omega) only [brO_neg]
  · rw [List.drop_zero]
    exact findI_fold _ 0 l
theorem Level_eq {n v c k : Nat} {l : List (List Int)} (h : okB n l) (hn : 200 < n) (hd : dck v l = 0) (hv2 : 2 ≤ v) (hne : l ≠ []) (hk : ∀ b, b ∈ l → b.length = k) (hc : ∀ p q : Nat, p < q → q < v → cnt p q l = c) :
    design_Level n v l 2 = some ((k : Int), (c : Int), 0) := by
  obtain ⟨_, hv40, hl⟩ := dck_zero hd
  have hv : v ≤ 40 := by omega
  have hs : scan v l = 0 := by
    unfold dck at hd
    rw [if_neg (by omega), if_neg (by omega), if_neg (by omega)] at hd
    exact hd
  have hb := scan_zero hs
  have hpos : 0 < l.length := List.length_pos_iff.2 hne
  unfold design_Level
  rw [dCheck_eq h, hd, bnd_sm]
  have hcont : slices_ContainsFunc_intint__design_Level_1 n l (k : Int) = some false := by
    unfold slices_ContainsFunc_intint__design_Level_1
    rw [lvIndex_eq hl hn, bnd_sm, findI_any]
    congr 1
    rw [List.any_eq_false]
    intro b hbm
    simp [hk b hbm]
  have hk0 : (l[0]'hpos).length = k := hk _ (List.getElem_mem hpos)
  have e0 : ((0 : Int) != 0) = false := rfl
  have e1 : ((l.length : Int) == 0) = false := by
    rw [beq_eq_false_iff_ne]
    omega
  rw [e0, brO_ff, brO_neg (by omega), brO_neg (by omega), brO_neg (by omega), e1, brO_ff, chk_pos (by omega), chk_pos (by omega), bnd_get hpos, hk0, hcont, bnd_sm, brO_ff, sets_eq h hl (fun b hbm x hx => ((hb b hbm).1 x hx).1), bnd_sm]
  unfold choicesIm
  rw [bnd_sm]
  unfold design_Level_rf
  rw [chk_pos (by omega), chk_pos (by simp only; omega), chk_pos (by omega), chk_pos (by omega)]
  refine (lv_range hv hl hn (fun b hbm => (hb b hbm).1) hc _ _ (chs v 2 0 0) (-1) (fun _ h => h) (.inl rfl)).trans ?_
  rw [if_neg (chs2_ne (by omega))]
  rfl
end
end Go.Gl
