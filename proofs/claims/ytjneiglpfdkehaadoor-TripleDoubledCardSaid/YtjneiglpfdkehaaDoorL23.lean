/-
  L23: twice as many points: the reference lists the same.
  Conditions: none; plain laws.
-/
import Derived.Test.YtjneiglpfdkehaaDoorL22
namespace Go.Gl
open Go Go.Gx Go.Gm
theorem sortI_perm {a b : List Int} (h : a.Perm b) : sortI a = sortI b :=
  sortI_unique ((List.mergeSort_perm _ _).trans h) (List.pairwise_mergeSort (le := fun x y : Int => decide (x ≤ y)) (by intro a b c; simp; omega) (by intro a b; simp; omega) a)
theorem sortL_perm {a b : List (List Int)} (h : a.Perm b) : sortL a = sortL b :=
  sortL_unique ((List.mergeSort_perm _ _).trans h) (List.pairwise_mergeSort leL_trans leL_total a)
theorem flatMap_split {α β : Type} (f : α → β) (g : α → List β) : ∀ l : List α, (l.flatMap fun a => f a :: g a).Perm (l.map f ++ l.flatMap g)
  | [] => List.Perm.refl _
  | a :: l => by
    rw [List.flatMap_cons, List.map_cons, List.flatMap_cons, List.cons_append, List.cons_append]
    refine List.Perm.cons _ ?_
    refine ((flatMap_split f g l).append_left (g a)).trans ?_
    rw [← List.append_assoc, ← List.append_assoc]
    exact List.perm_append_comm.append_right _
section
variable {ρ : Type}
def rR (p : Int) (b : List Int) : List (List Int) := [[u3 b 0, u3 b 1 + p, u3 b 2 + p], [u3 b 1, u3 b 0 + p, u3 b 2 + p], [u3 b 2, u3 b 0 + p, u3 b 1 + p]]
theorem do_l6 {n p : Nat} {t1 t2 : Int} {l1 l2 : List (List Int)} {L : List (List Int)} {k0 : List (List Int) → Option ρ} (hp : p ≤ 40) (hn : p < n) (hL : L.length ≤ 2 ^ 20) :
    ref2_DoubleOf_l6 n t1 l1 t2 l2 p L 0 k0 = k0 (L ++ (List.range p).flatMap fun x => [rD0 p x]) := by
  unfold ref2_DoubleOf_l6
  exact range_grow (step := fun (s : List (List Int) × Int) nx => ref2_DoubleOf_s6 n t1 l1 t2 l2 p s.1 s.2 (fun a0 a1 => nx (a0, a1)) k0) p (fun i L => (L, (i : Int))) (fun x => [rD0 p x]) 1 k0 (fun _ _ => by simp)
    (fun i s nx hi hs => by
      dsimp only
      unfold ref2_DoubleOf_s6
      rw [brO_pos (by omega), chk_pos rfl, chk_pos (by simp; omega), w64s (by omega), w64 (by omega), w64 (by omega)]
      rfl)
    (fun s nx => by
      dsimp only
      unfold ref2_DoubleOf_s6
      rw [brO_neg (by omega)]) n L hn (by omega)
theorem do_l10 {n p : Nat} {t2 : Int} {l2 l : List (List Int)} {L : List (List Int)} {k0 : List (List Int) → Option ρ} (ht : ∀ b, b ∈ l → tri p b) (hl : l.length ≤ 200) (hp : p ≤ 40) (hn : 200 < n) (hL : L.length ≤ 2 ^ 20) :
    ref2_DoubleOf_l10 n p l t2 l2 p L 0 k0 = k0 (L ++ l.flatMap (rR p)) := by
  unfold ref2_DoubleOf_l10
  exact iter_grow (step := fun (s : List (List Int) × Int) nx => ref2_DoubleOf_s10 n p l t2 l2 p s.1 s.2 (fun a0 a1 => nx (a0, a1)) k0) l (fun i L => (L, (i : Int))) (rR p) 3 k0 (fun _ _ => by simp [rR])
    (fun i s nx hi hs => by
      dsimp only
      unfold ref2_DoubleOf_s10
      have hb := ht _ (List.getElem_mem hi)
      rw [brO_pos (by omega), chk_pos (by omega), chk_pos (by omega), Int.toNat_natCast, bnd_get hi]
      obtain ⟨x, y, z, he, h1, h2, h3, h4⟩ := id hb
      have hlen : l[i].length = 3 := by rw [he]; rfl
      have g0 : l[i][0]? = some x := by rw [he]; rfl
      have g1 : l[i][1]? = some y := by rw [he]; rfl
      have g2 : l[i][2]? = some z := by rw [he]; rfl
      have w1 : IntKind.i64.wrap (x + p) = x + p := w64 (by omega)
      have w2 : IntKind.i64.wrap (y + p) = y + p := w64 (by omega)
      have w3 : IntKind.i64.wrap (z + p) = z + p := w64 (by omega)
      have c0 : ((0 : Int) < (l[i].length : Int)) := by omega
      have c1 : ((1 : Int) < (l[i].length : Int)) := by omega
      have c2 : ((2 : Int) < (l[i].length : Int)) := by omega
      have d0 : (0 : Int) ≤ 0 := by omega
      have d1 : (0 : Int) ≤ 1 := by omega
      have d2 : (0 : Int) ≤ 2 := by omega
      simp only [g0, g1, g2, bnd_sm, chk_pos c0, chk_pos c1, chk_pos c2, chk_pos d0, chk_pos d1, chk_pos d2, w1, w2, w3]
      rw [chk_T, chk_pos (by simp; omega), chk_T, chk_pos (by simp; omega), chk_T, chk_pos (by simp; omega), w64s (by omega)]
      have hr : rR p l[i] = [[x, y + p, z + p], [y, x + p, z + p], [z, x + p, y + p]] := by rw [he]; rfl
      rw [hr]
      simp only [List.append_assoc, List.cons_append, List.nil_append])
    (fun s nx => by
      dsimp only
      unfold ref2_DoubleOf_s10
      rw [brO_neg (by omega)]) n 0 L (by omega) (by omega) (by omega)
def RL (p : Nat) (l : List (List Int)) : List (List Int) := (l ++ (List.range p).flatMap fun x => [rD0 p x]) ++ l.flatMap (rR p)
theorem rR_sort (p : Int) (b : List Int) : (rR p b).map sortI = [sortI (rD p b 0), sortI (rD p b 1), sortI (rD p b 2)] := by
  simp only [rR, List.map_cons, List.map_nil]
  rw [show sortI [u3 b 1, u3 b 0 + p, u3 b 2 + p] = sortI (rD p b 1) from sortI_perm (List.Perm.cons _ (List.Perm.swap _ _ _))]
  rfl
theorem RL_DL (p : Nat) (l : List (List Int)) : ((RL p l).map sortI).Perm (DL p l) := by
  unfold RL DL
  rw [List.map_append, List.map_append, List.map_flatMap, List.map_flatMap]
  have h1 : (fun a : Nat => List.map sortI [rD0 p a]) = fun x => [sortI (rD0 p x)] := by funext x; rfl
  have h2 : (fun b => List.map sortI (rR (p : Int) b)) = fun b => [sortI (rD p b 0), sortI (rD p b 1), sortI (rD p b 2)] := by funext b; exact rR_sort p b
  rw [h1, h2]
  have h3 := flatMap_split sortI (fun b => [sortI (rD (p : Int) b 0), sortI (rD p b 1), sortI (rD p b 2)]) l
  refine List.Perm.trans ?_ (h3.symm.append_left _)
  rw [← List.append_assoc]
  exact List.perm_append_comm.append_right _
theorem DoubleOf_eq {n q : Nat} {l : List (List Int)} (hq : q ≤ 40) (hl : l.length ≤ 200) (ht : ∀ b, b ∈ l → tri q b) (hn : 2000 < n) : ref2_DoubleOf n q l = some (if 2 * (q : Int) + 1 > 33 then (0, [], 3) else (2 * (q : Int) + 1, sortL (DL q l), 0)) := by
  unfold ref2_DoubleOf
  have e : IntKind.i64.wrap (IntKind.i64.wrap (2 * (q : Int)) + 1) = 2 * q + 1 := by rw [w64 (x := 2 * (q : Int)) (by omega), w64 (by omega)]
  rw [e]
  by_cases h : 2 * (q : Int) + 1 > 33
  · rw [brO_pos h, if_pos h]
  · rw [brO_neg h, if_neg h, chk_pos rfl, List.nil_append, chk_pos (by omega), do_l6 hq (by omega) (by omega)]
    have hd : (l ++ (List.range q).flatMap fun x => [rD0 q x]).length ≤ 1000 := by
      have h1 := flat_len' (g := fun x : Nat => [rD0 q x]) (c := 1) (l := List.range q) (fun _ _ => by simp)
      rw [List.length_range] at h1
      rw [List.length_append]
      omega
    rw [do_l10 ht hl hq (by omega) (by omega)]
    have hr := flat_len' (g := rR q) (c := 3) (l := l) (fun _ _ => by simp [rR])
    show bnd (ref2_InOrder n (RL q l)) _ = _
    have hlen : (RL q l).length ≤ 1600 := by
      unfold RL
      rw [List.length_append]
      omega
    have hrow : ∀ b, b ∈ RL q l → b.length = 3 := by
      intro b hb
      unfold RL at hb
      rcases List.mem_append.1 hb with hb | hb
      · rcases List.mem_append.1 hb with hb | hb
        · exact tri_len (ht b hb)
        · obtain ⟨x, _, hb⟩ := List.mem_flatMap.1 hb
          rw [List.mem_singleton.1 hb]
          rfl
      · obtain ⟨c, _, hb⟩ := List.mem_flatMap.1 hb
        simp only [rR, List.mem_cons, List.not_mem_nil, or_false] at hb
        rcases hb with rfl | rfl | rfl <;> rfl
    rw [InOrder_eq (by omega) (by omega) (fun b hb => by have := hrow b hb; omega), bnd_sm, sortL_perm (RL_DL q l)]
end
end Go.Gl
