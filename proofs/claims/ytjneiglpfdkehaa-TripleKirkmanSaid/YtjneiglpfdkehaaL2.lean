/-
  L2: the models of small functions, in closed form.
  Conditions: none; plain laws.
-/
import Derived.Test.YtjneiglpfdkehaaL1
import Derived.Test.YtjneiglpfdkehaaGm
namespace Go.Gl
open Go Go.Gx Go.Gm
section
variable {ρ : Type}
theorem foldO_nil {α σ : Type} (F : α → σ → (σ → Option ρ) → Option ρ) (k : σ → Option ρ) (s : σ) : foldO F k [] s = k s := rfl
theorem foldO_cons {α σ : Type} (F : α → σ → (σ → Option ρ) → Option ρ) (k : σ → Option ρ) (a : α) (l : List α) (s : σ) : foldO F k (a :: l) s = F a s (foldO F k l) := rfl
/-- Leave at the first element of a kind. -/
theorem foldO_any {α : Type} (p : α → Bool) (x y : Option ρ) (l : List α) : foldO (fun a (_ : Unit) nx => if p a = true then x else nx ()) (fun _ => y) l () = if l.any p = true then x else y := by
  induction l with
  | nil => rfl
  | cons a l ih =>
    rw [foldO_cons]
    cases h : p a <;> simp [h, ih]
/-- Count. -/
theorem foldO_count {α : Type} (p : α → Bool) (k : Int → Option ρ) : ∀ (l : List α) (c : Nat), foldO (fun a s nx => if p a = true then nx (s + 1) else nx s) k l (c : Int) = k ((c + l.countP p : Nat) : Int)
  | [], c => by simp [foldO]
  | a :: l, c => by
    rw [foldO_cons]
    cases h : p a
    · simp only [Bool.false_eq_true, if_false]
      rw [foldO_count p k l c, List.countP_cons_of_neg (by simp [h])]
    · simp only [if_true]
      have := foldO_count p k l (c + 1)
      rw [List.countP_cons_of_pos (by simp [h])]
      rw [show ((c : Int) + 1) = ((c + 1 : Nat) : Int) from rfl, this]
      congr 2
      omega
theorem Lies_eq {n : Nat} {l : List Int} {x : Int} (hl : l.length ≤ 9223372036854775807) (hn : l.length < n) : ref2_Lies n l x = some (decide (x ∈ l)) := by
  unfold ref2_Lies ref2_Lies_l2
  refine (iter_list l (fun i (_ : Unit) => (i : Int)) (fun v s nx => if (v == x) = true then some true else nx s) (fun _ => some false) ?_ ?_ n 0 () (Nat.zero_le _) (by omega)).trans ?_
  · intro i s nx h
    unfold ref2_Lies_s2
    simp (disch := omega) only [brO_pos, chk_pos, bnd_get, w64s, Int.toNat_natCast]
    simp only [brO_if]
  · intro s nx
    unfold ref2_Lies_s2
    simp (disch := omega) only [brO_neg]
  · rw [List.drop_zero, foldO_any]
    by_cases h : x ∈ l
    · have : (l.any fun a => a == x) = true := List.any_eq_true.2 ⟨x, h, by simp⟩
      simp [this, h]
    · have : (l.any fun a => a == x) = false := List.any_eq_false.2 fun a ha => by
        simp only [beq_iff_eq]
        rintro rfl
        exact h ha
      simp [this, h]
/-- Do numbers rise? -/
def inc : List Int → Bool
  | a :: b :: r => decide (a < b) && inc (b :: r)
  | _ => true
/-- Is a number none of the points? -/
def outB (p x : Int) : Bool := decide (x < 0) || decide (x ≥ p)
def ck (p : Int) (b : List Int) : Int := if b.any (outB p) = true then 1 else if inc b = true then 0 else 2
def scan (p : Int) : List (List Int) → Int
  | [] => 0
  | b :: r => if ck p b = 0 then scan p r else ck p b
/-- What is wrong with a design. -/
def dck (p : Int) (l : List (List Int)) : Int := if p < 1 then 1 else if p > 40 then 1 else if (l.length : Int) > 200 then 3 else scan p l
theorem inc_fold (k0 k1 : Option ρ) : ∀ (b : List Int), foldO (fun (q : Int × Int) (_ : Unit) nx => if decide (q.2 ≤ q.1) = true then k0 else nx ()) (fun _ => k1) (b.zip b.tail) () = if inc b = true then k1 else k0
  | [] => rfl
  | [_] => rfl
  | a :: c :: r => by
    have ih := inc_fold k0 k1 (c :: r)
    show (if decide (c ≤ a) = true then k0 else foldO _ _ ((c :: r).zip r) ()) = _
    by_cases h : c ≤ a
    · have : ¬ a < c := by omega
      simp [inc, h, this]
    · have h' : a < c := by omega
      simp only [List.tail_cons] at ih
      simp only [h, decide_false, Bool.false_eq_true, if_false, ih, inc, h', decide_true, Bool.true_and]
/-- The loop that asks whether numbers rise. -/
theorem inc_loop {n : Nat} {step : Int → (Int → Option ρ) → Option ρ} {b : List Int} {k0 k1 : Option ρ} (hl : b.length ≤ 9223372036854775807) (hn : b.length < n)
    (h1 : ∀ (i : Nat) nx (h : i + 1 < b.length), step ((i + 1 : Nat) : Int) nx = if decide (b[i + 1] ≤ b[i]) = true then k0 else nx ((i + 2 : Nat) : Int))
    (h2 : ∀ (i : Nat) nx, b.length ≤ i → i ≤ b.length + 1 → step (i : Int) nx = k1) : iterM step n 1 = if inc b = true then k1 else k0 := by
  have hz : (b.zip b.tail).length = b.length - 1 := by simp
  refine (iter_list (b.zip b.tail) (fun i (_ : Unit) => ((i + 1 : Nat) : Int)) (fun q _ nx => if decide (q.2 ≤ q.1) = true then k0 else nx ()) (fun _ => k1) ?_ ?_ n 0 () (Nat.zero_le _) (by omega)).trans ?_
  · intro i s nx h
    rw [h1 i nx (by omega)]
    simp
    rfl
  · intro s nx
    rw [hz]
    exact h2 _ nx (by omega) (by omega)
  · rw [List.drop_zero]
    exact inc_fold k0 k1 b
theorem dCheck1_eq {n : Nat} {x p : Int} {l : List (List Int)} : design_Check_1 n x p l = some (outB p x) := by
  unfold design_Check_1 outB
  by_cases h : x < 0
  · simp [brO, h]
  · simp [brO, h]
/-- Where an element of a kind lies first. -/
def findI {α : Type} (p : α → Bool) : Nat → List α → Int
  | _, [] => -1
  | i, a :: l => if p a = true then i else findI p (i + 1) l
theorem findI_fold {α : Type} (p : α → Bool) : ∀ (i : Nat) (l : List α), foldI (fun i a (_ : Unit) nx => if p a = true then some (i : Int) else nx ()) (fun _ => some (-1)) i l () = some (findI p i l)
  | _, [] => rfl
  | i, a :: l => by
    show (if p a = true then _ else foldI _ _ (i + 1) l ()) = _
    unfold findI
    split
    · rfl
    · exact findI_fold p (i + 1) l
theorem findI_any {α : Type} (p : α → Bool) : ∀ (i : Nat) (l : List α), decide (findI p i l ≥ 0) = l.any p
  | _, [] => by simp [findI]
  | i, a :: l => by
    unfold findI
    rw [List.any_cons]
    cases h : p a
    · simp only [Bool.false_eq_true, if_false, Bool.false_or]
      exact findI_any p (i + 1) l
    · simp
theorem dIndexFunc_eq {n : Nat} {b : List Int} {p : Int} {l : List (List Int)} (hl : b.length ≤ 9223372036854775807) (hn : b.length < n) :
    slices_IndexFunc_intint__design_Check_1 n b p l = some (findI (outB p) 0 b) := by
  unfold slices_IndexFunc_intint__design_Check_1 slices_IndexFunc_intint__design_Check_1_l2
  refine (iter_idx b (fun i (_ : Unit) => (i : Int)) (fun i v s nx => if outB p v = true then some (i : Int) else nx s) (fun _ => some (-1)) ?_ ?_ n 0 () (Nat.zero_le _) (by omega)).trans ?_
  · intro i s nx h
    unfold slices_IndexFunc_intint__design_Check_1_s2
    simp (disch := omega) only [brO_pos, chk_pos, bnd_get, w64s, Int.toNat_natCast, dCheck1_eq, bnd_sm]
    simp only [brO_if]
  · intro s nx
    unfold slices_IndexFunc_intint__design_Check_1_s2
    simp (disch := omega) only [brO_neg]
  · rw [List.drop_zero]
    exact findI_fold _ 0 b
theorem dContainsFunc_eq {n : Nat} {b : List Int} {p : Int} {l : List (List Int)} (hl : b.length ≤ 9223372036854775807) (hn : b.length < n) : slices_ContainsFunc_intint__design_Check_1 n b p l = some (b.any (outB p)) := by
  unfold slices_ContainsFunc_intint__design_Check_1
  rw [dIndexFunc_eq hl hn, bnd_sm, findI_any]
/-- The blocks of a design are looked through. -/
theorem scan_fold (p : Int) (l : List (List Int)) : foldO (fun b (_ : Unit) nx => if b.any (outB p) = true then some (1 : Int) else if inc b = true then nx () else some 2) (fun _ => some 0) l () = some (scan p l) := by
  induction l with
  | nil => rfl
  | cons b l ih =>
    rw [foldO_cons]
    unfold scan ck
    split
    · simp
    · split
      · simpa using ih
      · simp
def okB (n : Nat) (l : List (List Int)) : Prop := l.length ≤ 9223372036854775807 ∧ l.length < n ∧ ∀ b, b ∈ l → b.length ≤ 9223372036854775807 ∧ b.length < n
theorem dCheck_eq {n : Nat} {p : Int} {l : List (List Int)} (h : okB n l) : design_Check n p l = some (dck p l) := by
  obtain ⟨h1, h2, h3⟩ := h
  unfold design_Check dck
  by_cases hp : p < 1
  · simp [brO, hp]
  by_cases hp' : p > 40
  · simp [brO, hp, hp']
  by_cases hp'' : (l.length : Int) > 200
  · simp [brO, hp, hp', hp'']
  simp only [brO_if, hp, hp', hp'', decide_false, Bool.false_eq_true, if_false]
  unfold design_Check_l6
  refine (iter_list l (fun i (_ : Unit) => (i : Int)) (fun b _ nx => if b.any (outB p) = true then some 1 else if inc b = true then nx () else some 2) (fun _ => some 0) ?_ ?_ n 0 () (Nat.zero_le _) (by omega)).trans ?_
  · intro i s nx h
    have hb := h3 _ (List.getElem_mem h)
    unfold design_Check_s6
    simp (disch := omega) only [brO_pos, chk_pos, bnd_get, w64s, Int.toNat_natCast]
    rw [dContainsFunc_eq hb.1 hb.2, bnd_sm, brO_if]
    congr 1
    unfold design_Check_l11
    refine inc_loop hb.1 hb.2 ?_ ?_
    · intro j nx' hj
      unfold design_Check_s11
      have e : IntKind.i64.wrap (((j + 1 : Nat) : Int) - 1) = (j : Int) := by rw [w64 (by omega)]; omega
      simp (disch := omega) only [brO_pos, chk_pos, e, bnd_get, w64s, Int.toNat_natCast]
      simp only [brO_if]
    · intro j nx' hj hj'
      unfold design_Check_s11
      simp (disch := omega) only [brO_neg]
  · intro s nx
    unfold design_Check_s6
    simp (disch := omega) only [brO_neg]
  · rw [List.drop_zero]
    exact scan_fold p l
theorem DesignFault_eq {n : Nat} {p : Int} {l : List (List Int)} (h : okB n l) : ref2_DesignFault n p l = some (dck p l) := by
  obtain ⟨h1, h2, h3⟩ := h
  unfold ref2_DesignFault dck
  by_cases hp : p < 1
  · simp [brO, hp]
  by_cases hp' : p > 40
  · simp [brO, hp, hp']
  by_cases hp'' : (l.length : Int) > 200
  · simp [brO, hp, hp', hp'']
  simp only [brO_if, hp, hp', hp'', decide_false, Bool.false_eq_true, if_false]
  unfold ref2_DesignFault_l6
  refine (iter_list l (fun i (_ : Unit) => (i : Int)) (fun b _ nx => if b.any (outB p) = true then some 1 else if inc b = true then nx () else some 2) (fun _ => some 0) ?_ ?_ n 0 () (Nat.zero_le _) (by omega)).trans ?_
  · intro i s nx h
    have hb := h3 _ (List.getElem_mem h)
    unfold ref2_DesignFault_s6
    simp (disch := omega) only [brO_pos, chk_pos, bnd_get, w64s, Int.toNat_natCast]
    unfold ref2_DesignFault_l10
    refine (iter_list l[i] (fun j (_ : Unit) => (j : Int)) (fun x _ nx' => if outB p x = true then some 1 else nx' ()) (fun _ => if inc l[i] = true then nx ((i + 1 : Nat) : Int) else some 2) ?_ ?_ n 0 () (Nat.zero_le _) (by omega)).trans ?_
    · intro j s nx' hj
      unfold ref2_DesignFault_s10
      simp (disch := omega) only [brO_pos, chk_pos, bnd_get, w64s, Int.toNat_natCast]
      unfold outB
      by_cases h5 : l[i][j] < 0
      · simp [brO, h5]
      · by_cases h6 : p ≤ l[i][j] <;> simp [brO, h5, h6]
    · intro s nx'
      unfold ref2_DesignFault_s10
      simp (disch := omega) only [brO_neg]
      unfold ref2_DesignFault_l15
      refine inc_loop hb.1 hb.2 ?_ ?_
      · intro j nx' hj
        unfold ref2_DesignFault_s15
        have e : IntKind.i64.wrap (((j + 1 : Nat) : Int) - 1) = (j : Int) := by rw [w64 (by omega)]; omega
        simp (disch := omega) only [brO_pos, chk_pos, e, bnd_get, w64s, Int.toNat_natCast]
        simp only [brO_if]
      · intro j nx' hj hj'
        unfold ref2_DesignFault_s15
        simp (disch := omega) only [brO_neg]
    · rw [List.drop_zero, foldO_any]
  · intro s nx
    unfold ref2_DesignFault_s6
    simp (disch := omega) only [brO_neg]
  · rw [List.drop_zero]
    exact scan_fold p l
end
end Go.Gl
