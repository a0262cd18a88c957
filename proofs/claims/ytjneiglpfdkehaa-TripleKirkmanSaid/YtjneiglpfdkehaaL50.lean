/-
  L50: how many blocks two points lie in together: the program's count by bits, in closed form.
  Conditions: none; plain laws.
-/
import Derived.Test.YtjneiglpfdkehaaL7
namespace Go.Gl
open Go Go.Gx Go.Gm
section
variable {ρ : Type}
abbrev bv (x : Int) : BitVec 64 := BitVec.ofInt 64 x
theorem u64_small {m : Nat} (h : m < 2 ^ 64) : IntKind.u64.wrap (m : Int) = m := by
  have h1 : ((m : Int) % (2 ^ 64 : Int)) = m := by omega
  unfold IntKind.wrap
  simp only [IntKind.bits, h1]
  rw [if_neg]
  simp [IntKind.signed]
theorem u64_bv (x : BitVec 64) : IntKind.u64.wrap (x.toNat : Int) = (x.toNat : Int) := u64_small x.isLt
theorem bv_nat (x : BitVec 64) : bv (x.toNat : Int) = x := by
  unfold bv
  rw [BitVec.ofInt_natCast, BitVec.ofNat_toNat, BitVec.setWidth_eq]
theorem bv_pow {p : Int} (h0 : 0 ≤ p) (h1 : p < 64) (i : Nat) : (bv (IntKind.u64.wrap (1 * 2 ^ (min p.toNat 64)))).getLsbD i = decide ((i : Int) = p) := by
  have e : (1 * 2 ^ (min p.toNat 64) : Int) = ((2 ^ p.toNat : Nat) : Int) := by
    rw [Int.one_mul, show min p.toNat 64 = p.toNat by omega]
    push_cast
    rfl
  have hlt : 2 ^ p.toNat < 2 ^ 64 := Nat.pow_lt_pow_right (by omega) (by omega)
  rw [e, u64_small hlt]
  unfold bv
  rw [BitVec.ofInt_natCast, BitVec.getLsbD_ofNat, Nat.testBit_two_pow]
  by_cases hi : i < 64
  · simp only [hi, decide_true, Bool.true_and]
    congr 1
    apply propext
    omega
  · have : ¬ ((i : Int) = p) := by omega
    simp [hi, this]
theorem bv_or {s p : Int} (h0 : 0 ≤ p) (h1 : p < 64) (i : Nat) : (bv (bitOr s p)).getLsbD i = ((bv s).getLsbD i || decide ((i : Int) = p)) := by
  unfold bitOr
  rw [u64_bv, bv_nat, BitVec.getLsbD_or, bv_pow h0 h1]
def mask (b : List Int) : Int := b.foldl bitOr 0
theorem bv_fold {b : List Int} : ∀ (s : Int), (∀ x, x ∈ b → 0 ≤ x ∧ x < 64) → ∀ i : Nat, (bv (b.foldl bitOr s)).getLsbD i = ((bv s).getLsbD i || decide ((i : Int) ∈ b)) := by
  induction b with
  | nil => intro s _ i; simp
  | cons x b ih =>
    intro s h i
    have hx := h x (List.mem_cons_self ..)
    rw [List.foldl_cons, ih _ (fun y hy => h y (List.mem_cons_of_mem _ hy)), bv_or hx.1 hx.2]
    simp only [List.mem_cons]
    cases (bv s).getLsbD i <;> cases hd : decide ((i : Int) = x) <;> simp_all
theorem bv_mask {b : List Int} (h : ∀ x, x ∈ b → 0 ≤ x ∧ x < 64) (i : Nat) : (bv (mask b)).getLsbD i = decide ((i : Int) ∈ b) := by
  unfold mask
  rw [bv_fold 0 h i]
  simp [bv]
theorem both_eq {b : List Int} (h : ∀ x, x ∈ b → 0 ≤ x ∧ x < 64) {p q : Int} (hp : 0 ≤ p ∧ p < 64) (hq : 0 ≤ q ∧ q < 64) :
    ((IntKind.u64.wrap ((BitVec.ofInt 64 (mask b) &&& BitVec.ofInt 64 (bitOr (bitOr 0 p) q)).toNat : Int)) == bitOr (bitOr 0 p) q) = two p q b := by
  have hx : bitOr (bitOr 0 p) q = (((bv (bitOr (bitOr 0 p) q)).toNat : Nat) : Int) := by
    conv => lhs; unfold bitOr
    conv => rhs; unfold bitOr
    rw [u64_bv, bv_nat]
  have key : (BitVec.ofInt 64 (mask b) &&& BitVec.ofInt 64 (bitOr (bitOr 0 p) q)) = bv (bitOr (bitOr 0 p) q) ↔ p ∈ b ∧ q ∈ b := by
    have hbit : ∀ i, (bv (bitOr (bitOr 0 p) q)).getLsbD i = (decide ((i : Int) = p) || decide ((i : Int) = q)) := by
      intro i
      rw [bv_or hq.1 hq.2, bv_or hp.1 hp.2]
      simp [bv]
    constructor
    · intro e
      have g : ∀ i, ((bv (mask b)).getLsbD i && (bv (bitOr (bitOr 0 p) q)).getLsbD i) = (bv (bitOr (bitOr 0 p) q)).getLsbD i := by
        intro i
        rw [← BitVec.getLsbD_and]
        exact congrArg (fun z : BitVec 64 => z.getLsbD i) e
      have gp := g p.toNat
      have gq := g q.toNat
      rw [hbit, bv_mask h, Int.toNat_of_nonneg hp.1] at gp
      rw [hbit, bv_mask h, Int.toNat_of_nonneg hq.1] at gq
      simp at gp gq
      exact ⟨gp, gq⟩
    · rintro ⟨h1, h2⟩
      refine BitVec.eq_of_getLsbD_eq fun i hi => ?_
      rw [BitVec.getLsbD_and]
      show ((bv (mask b)).getLsbD i && (bv (bitOr (bitOr 0 p) q)).getLsbD i) = _
      rw [hbit, bv_mask h]
      by_cases e1 : (i : Int) = p
      · rw [e1]; simp [h1]
      · by_cases e2 : (i : Int) = q
        · rw [e2]; simp [h2]
        · simp [e1, e2]
  rw [u64_bv]
  unfold two
  rw [Bool.eq_iff_iff, beq_iff_eq, Bool.and_eq_true, decide_eq_true_eq, decide_eq_true_eq, ← key]
  constructor
  · intro e
    rw [hx] at e
    have e' : (BitVec.ofInt 64 (mask b) &&& BitVec.ofInt 64 (((bv (bitOr (bitOr 0 p) q)).toNat : Nat) : Int)).toNat = (bv (bitOr (bitOr 0 p) q)).toNat := by exact_mod_cast e
    have := BitVec.eq_of_toNat_eq e'
    rw [← hx] at this
    exact this
  · intro e
    rw [e]
    exact hx.symm
/-! ### The program's sets -/
theorem sets_l7 {n : Nat} {out : List Int} {t10 : List (List Int)} {t11 t12 : Int} {b : List Int} (hb : ∀ x, x ∈ b → 0 ≤ x) (hl : b.length ≤ 9223372036854775807) (hn : b.length < n) (k0 : Int → Option ρ) :
    design_sets_l7 n out t10 t11 t12 b (b.length : Int) 0 0 k0 = k0 (mask b) := by
  unfold design_sets_l7
  refine (iter_list b (fun i (s : Int) => (s, (i : Int))) (fun v s nx => if v < 0 then none else nx (bitOr s v)) k0 ?_ ?_ n 0 0 (Nat.zero_le _) (by omega)).trans ?_
  · intro i s nx h
    unfold design_sets_s7
    simp (disch := omega) only [brO_pos, chk_pos, bnd_get, w64s, Int.toNat_natCast]
    rfl
  · intro s nx
    unfold design_sets_s7
    simp (disch := omega) only [brO_neg]
  · rw [List.drop_zero]
    have : ∀ (r : List Int) (s : Int), (∀ x, x ∈ r → 0 ≤ x) → foldO (fun v s nx => if v < 0 then none else nx (bitOr s v)) k0 r s = k0 (r.foldl bitOr s) := by
      intro r
      induction r with
      | nil => intro s _; rfl
      | cons x r ih =>
        intro s h
        have := h x (List.mem_cons_self ..)
        rw [foldO_cons, if_neg (by omega), List.foldl_cons, ih _ (fun y hy => h y (List.mem_cons_of_mem _ hy))]
    exact this b 0 hb
theorem sets_eq {n : Nat} {p : Int} {l : List (List Int)} (h : okB n l) (hl : l.length ≤ 200) (hb : ∀ b, b ∈ l → ∀ x, x ∈ b → 0 ≤ x) : design_sets n p l = some (l.map mask) := by
  unfold design_sets design_sets_l3
  refine (iter_list l (fun i (s : List Int) => (s, (i : Int))) (fun b s nx => chk ((s ++ [mask b]).length < 2 ^ 40) (nx (s ++ [mask b]))) (fun s => some s) ?_ ?_ n 0 [] (Nat.zero_le _) (by have := h.2.1; omega)).trans ?_
  · intro i s nx hi
    have hm := List.getElem_mem hi
    have hb' := h.2.2 _ hm
    have h1 := h.1
    unfold design_sets_s3
    simp (disch := omega) only [brO_pos, chk_pos, bnd_get, w64s, Int.toNat_natCast]
    rw [sets_l7 (hb _ hm) hb'.1 hb'.2]
    simp (disch := omega) only [chk_T]
  · intro s nx
    unfold design_sets_s3
    simp (disch := omega) only [brO_neg]
  · rw [List.drop_zero]
    have : ∀ (r : List (List Int)) (s : List Int), s.length + r.length ≤ 200 → foldO (fun b s nx => chk ((s ++ [mask b]).length < 2 ^ 40) (nx (s ++ [mask b]))) (fun s => some s) r s = some (s ++ r.map mask) := by
      intro r
      induction r with
      | nil => intro s _; simp [foldO]
      | cons x r ih =>
        intro s h
        simp only [List.length_cons] at h
        rw [foldO_cons, chk_pos (by simp; omega), ih _ (by simp; omega)]
        simp
    rw [this l [] (by simpa using hl)]
    simp
end
end Go.Gl
