/-
  L3: the models that ask about systems of triples, in closed form.
  Conditions: none; plain laws.
-/
import Derived.Test.YtjneiglpfdkehaaL2
namespace Go.Gl
open Go Go.Gx Go.Gm
section
variable {ρ : Type}
theorem foldO_pure {α σ : Type} {F : α → σ → (σ → Option ρ) → Option ρ} {k : σ → Option ρ} (f : α → σ → σ) (I : σ → Prop) : ∀ (l : List α) (s : σ), I s → (∀ a s, a ∈ l → I s → I (f a s)) → (∀ a s nx, a ∈ l → I s → F a s nx = nx (f a s)) →
    foldO F k l s = k (l.foldl (fun s a => f a s) s)
  | [], _, _, _, _ => rfl
  | a :: l, s, h, hI, hF => by
    rw [foldO_cons, hF a s _ (List.mem_cons_self ..) h, List.foldl_cons]
    exact foldO_pure f I l _ (hI a s (List.mem_cons_self ..) h) (fun b s hb => hI b s (List.mem_cons_of_mem _ hb)) (fun b s nx hb => hF b s nx (List.mem_cons_of_mem _ hb))
/-- Count, where the sum wraps. -/
theorem foldO_countW {α : Type} (p : α → Bool) (k : Int → Option ρ) : ∀ (l : List α) (c : Nat), c + l.length ≤ 9223372036854775807 → foldO (fun a s nx => if p a = true then nx (IntKind.i64.wrap (s + 1)) else nx s) k l (c : Int) = k ((c + l.countP p : Nat) : Int)
  | [], c, _ => by simp [foldO]
  | a :: l, c, h => by
    rw [List.length_cons] at h
    rw [foldO_cons]
    cases h' : p a
    · simp only [Bool.false_eq_true, if_false]
      rw [foldO_countW p k l c (by omega), List.countP_cons_of_neg (by simp [h'])]
    · simp only [if_true]
      rw [w64s (by omega), foldO_countW p k l (c + 1) (by omega), List.countP_cons_of_pos (by simp [h'])]
      congr 2
      omega
/-- In how many blocks two points lie together. -/
def cnt (x y : Int) (l : List (List Int)) : Nat := l.countP fun b => decide (x ∈ b) && decide (y ∈ b)
def good (p : Nat) (l : List (List Int)) : Bool := (List.range p).all fun x => (List.range x).all fun y => cnt x y l == 1
def len3 (l : List (List Int)) : Bool := l.all fun b => b.length == 3
def tfault (p : Int) (l : List (List Int)) : Int := if dck p l = 0 then (if len3 l = true then (if good p.toNat l = true then 0 else 4) else 4) else dck p l
theorem tf_l17 {n : Nat} {p : Int} {l : List (List Int)} (h : okB n l) (x y : Int) (k : Int → Option ρ) : ref2_TripleFault_l17 n p l x y 0 0 k = k (cnt x y l : Int) := by
  obtain ⟨h1, h2, h3⟩ := h
  unfold ref2_TripleFault_l17
  refine (iter_list l (fun i (s : Int) => (s, (i : Int))) (fun b s nx => if (decide (x ∈ b) && decide (y ∈ b)) = true then nx (IntKind.i64.wrap (s + 1)) else nx s) k ?_ ?_ n 0 0 (Nat.zero_le _) (by omega)).trans ?_
  · intro i s nx hi
    have hb := h3 _ (List.getElem_mem hi)
    unfold ref2_TripleFault_s17
    simp (disch := omega) only [brO_pos, chk_pos, bnd_get, w64s, Int.toNat_natCast]
    rw [Lies_eq hb.1 hb.2, Lies_eq hb.1 hb.2]
    simp only [bnd_sm, brO_if, Bool.and_eq_true]
    by_cases hx : x ∈ l[i] <;> by_cases hy : y ∈ l[i] <;> simp [hx, hy]
  · intro s nx
    unfold ref2_TripleFault_s17
    simp (disch := omega) only [brO_neg]
  · rw [List.drop_zero]
    have := foldO_countW (ρ := ρ) (fun b => decide (x ∈ b) && decide (y ∈ b)) k l 0 (by omega)
    rw [Nat.zero_add] at this
    exact this
theorem tf_l13 {n : Nat} {p : Int} {l : List (List Int)} (h : okB n l) (x : Nat) (hx : x ≤ 40) (hn : 40 < n) (k0 k1 : Option ρ) :
    ref2_TripleFault_l13 n p l x 0 k0 k1 = if ((List.range x).all fun y => cnt x y l == 1) = true then k1 else k0 := by
  unfold ref2_TripleFault_l13
  refine (iter_range x (fun i (_ : Unit) => (i : Int)) (fun y _ nx => if (!(cnt x y l == 1)) = true then k0 else nx ()) (fun _ => k1) ?_ ?_ n 0 () (Nat.zero_le _) (by omega)).trans ?_
  · intro i s nx hi
    unfold ref2_TripleFault_s13
    simp (disch := omega) only [brO_pos, w64s]
    rw [tf_l17 h, brO_if]
    have : ((cnt (x : Int) (i : Int) l : Int) != 1) = !(cnt x i l == 1) := by
      rw [Bool.eq_iff_iff]
      simp
      omega
    rw [this]
  · intro s nx
    unfold ref2_TripleFault_s13
    simp (disch := omega) only [brO_neg]
  · rw [foldO_any, Nat.sub_zero, ← List.range_eq_range', List.any_eq_not_all_not]
    simp only [Bool.not_not]
    cases (List.range x).all fun y => cnt x y l == 1 <;> rfl
theorem tf_l10 {n : Nat} {p : Nat} {l : List (List Int)} (h : okB n l) (hp : p ≤ 40) (hn : 40 < n) (k0 k1 : Option ρ) : ref2_TripleFault_l10 n p l 0 k0 k1 = if good p l = true then k1 else k0 := by
  unfold ref2_TripleFault_l10
  refine (iter_range p (fun i (_ : Unit) => (i : Int)) (fun x _ nx => if (!((List.range x).all fun y => cnt x y l == 1)) = true then k0 else nx ()) (fun _ => k1) ?_ ?_ n 0 () (Nat.zero_le _) (by omega)).trans ?_
  · intro i s nx hi
    unfold ref2_TripleFault_s10
    simp (disch := omega) only [brO_pos, w64s]
    rw [tf_l13 h i (by omega) hn]
    cases (List.range i).all fun y => cnt i y l == 1 <;> rfl
  · intro s nx
    unfold ref2_TripleFault_s10
    simp (disch := omega) only [brO_neg]
  · rw [foldO_any, Nat.sub_zero, ← List.range_eq_range', List.any_eq_not_all_not]
    simp only [Bool.not_not]
    unfold good
    cases (List.range p).all fun x => (List.range x).all fun y => cnt x y l == 1 <;> rfl
theorem tf_l5 {n : Nat} {p : Int} {l : List (List Int)} (h : okB n l) (k0 k1 : Option ρ) : ref2_TripleFault_l5 n p l 0 k0 k1 = if len3 l = true then k1 else k0 := by
  obtain ⟨h1, h2, h3⟩ := h
  unfold ref2_TripleFault_l5
  refine (iter_list l (fun i (_ : Unit) => (i : Int)) (fun b _ nx => if (!(b.length == 3)) = true then k0 else nx ()) (fun _ => k1) ?_ ?_ n 0 () (Nat.zero_le _) (by omega)).trans ?_
  · intro i s nx hi
    unfold ref2_TripleFault_s5
    simp (disch := omega) only [brO_pos, chk_pos, bnd_get, w64s, Int.toNat_natCast]
    rw [brO_if]
    have : ((l[i].length : Int) != 3) = !(l[i].length == 3) := by
      rw [Bool.eq_iff_iff]
      simp
      omega
    rw [this]
  · intro s nx
    unfold ref2_TripleFault_s5
    simp (disch := omega) only [brO_neg]
  · rw [List.drop_zero, foldO_any, List.any_eq_not_all_not]
    simp only [Bool.not_not]
    unfold len3
    cases l.all fun b => b.length == 3 <;> rfl
theorem dck_zero {p : Int} {l : List (List Int)} (h : dck p l = 0) : 1 ≤ p ∧ p ≤ 40 ∧ l.length ≤ 200 := by
  unfold dck at h
  split at h
  · omega
  · split at h
    · omega
    · split at h <;> omega
theorem TripleFault_eq {n : Nat} {p : Int} {l : List (List Int)} (h : okB n l) (hn : 40 < n) : ref2_TripleFault n p l = some (tfault p l) := by
  unfold ref2_TripleFault tfault
  rw [DesignFault_eq h, bnd_sm, brO_if]
  by_cases h0 : dck p l = 0
  · obtain ⟨h4, h5, _⟩ := dck_zero h0
    simp only [h0, bne_self_eq_false, Bool.false_eq_true, if_false, if_true]
    rw [tf_l5 h]
    obtain ⟨q, rfl⟩ := Int.eq_ofNat_of_zero_le (show 0 ≤ p by omega)
    rw [tf_l10 h (by omega) hn]
    simp only [Int.toNat_natCast]
    split
    · split <;> rfl
    · rfl
  · simp [h0]
end
end Go.Gl
