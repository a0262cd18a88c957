/-
  Models of the functions, printed by program (gen.py) from the functions' code.
  Conditions: none; definitions alone.
-/
import Derived.Test.YtjneiglpfdkehaaG3
import Derived.Test.YtjneiglpfdkehaaG5
namespace Go.Gm
open Go Go.Gx

def triple_lister_add (_n : Nat) (l0_0 : List (List Int)) (l0_1 : Int) (a1 : Int) (b2 : Int) (c_3 : Int) : Option ((List (List Int)) × Int) :=
  bnd (sortIm ([a1, b2, c_3])) fun z1' =>
  chk (41 = 41) <|
  chk ((l0_0 ++ [z1']).length < 2 ^ 40) <|
  some ((l0_0 ++ [z1']), l0_1)
def triple_system_bose_s10 {ρ : Type} (n : Nat) (_t1 : Int) (t4 : Int) (t5 : Int) (t6 : Int) (t7 : Int) (_t12 : Int) (_t13 : Int) (toArray0_0 : List (List Int)) (toArray0_1 : Int) (t43 : Int) (next : List (List Int) → Int → Int → Option ρ) (k0 : List (List Int) → Int → Option ρ) : Option ρ :=
  brO (decide (t43 < 3)) (
    bnd (triple_lister_add n toArray0_0 toArray0_1 (IntKind.i64.wrap (t5 + (IntKind.i64.wrap (t4 * t43)))) (IntKind.i64.wrap (t6 + (IntKind.i64.wrap (t4 * t43)))) (IntKind.i64.wrap (t7 + (IntKind.i64.wrap (t4 * ((IntKind.i64.wrap (t43 + 1)).tmod 3)))))) fun z2' =>
    next z2'.1 z2'.2 (IntKind.i64.wrap (t43 + 1))) (
    k0 toArray0_0 toArray0_1)
def triple_system_bose_l10 {ρ : Type} (n : Nat) (t1 : Int) (t4 : Int) (t5 : Int) (t6 : Int) (t7 : Int) (t12 : Int) (t13 : Int) (toArray0_0 : List (List Int)) (toArray0_1 : Int) (t43 : Int) (k0 : List (List Int) → Int → Option ρ) : Option ρ :=
  iterM (fun (s : (List (List Int)) × Int × Int) nx => triple_system_bose_s10 n t1 t4 t5 t6 t7 t12 t13 s.1 s.2.1 s.2.2 (fun a0 a1 a2 => nx (a0, a1, a2)) k0) n (toArray0_0, toArray0_1, t43)
def triple_system_bose_s6 {ρ : Type} (n : Nat) (t1 : Int) (t4 : Int) (t5 : Int) (t12 : Int) (t13 : Int) (toArray0_0 : List (List Int)) (toArray0_1 : Int) (t6 : Int) (next : List (List Int) → Int → Int → Option ρ) (k0 : List (List Int) → Int → Option ρ) : Option ρ :=
  brO (decide (t6 < t4)) (
    if t4 = 0 then none else
    triple_system_bose_l10 n t1 t4 t5 t6 ((IntKind.i64.wrap ((IntKind.i64.wrap (t5 + t6)) * (IntKind.i64.wrap (t1 + 1)))).tmod t4) t12 t13 toArray0_0 toArray0_1 0 (fun x3' x4' =>
      next x3' x4' (IntKind.i64.wrap (t6 + 1)))) (
    k0 toArray0_0 toArray0_1)
def triple_system_bose_l6 {ρ : Type} (n : Nat) (t1 : Int) (t4 : Int) (t5 : Int) (t12 : Int) (t13 : Int) (toArray0_0 : List (List Int)) (toArray0_1 : Int) (t6 : Int) (k0 : List (List Int) → Int → Option ρ) : Option ρ :=
  iterM (fun (s : (List (List Int)) × Int × Int) nx => triple_system_bose_s6 n t1 t4 t5 t12 t13 s.1 s.2.1 s.2.2 (fun a0 a1 a2 => nx (a0, a1, a2)) k0) n (toArray0_0, toArray0_1, t6)
def triple_system_bose_s2 {ρ : Type} (n : Nat) (t1 : Int) (t4 : Int) (t12 : Int) (toArray0_0 : List (List Int)) (toArray0_1 : Int) (t13 : Int) (next : List (List Int) → Int → Int → Option ρ) (k0 : List (List Int) → Int → Option ρ) : Option ρ :=
  brO (decide (t13 < t12)) (
    bnd (triple_lister_add n toArray0_0 toArray0_1 t13 (IntKind.i64.wrap (t13 + t4)) (IntKind.i64.wrap (t13 + (IntKind.i64.wrap (2 * t4))))) fun z1' =>
    triple_system_bose_l6 n t1 t4 t13 t12 t13 z1'.1 z1'.2 (IntKind.i64.wrap (t13 + 1)) (fun x5' x6' =>
      next x5' x6' (IntKind.i64.wrap (t13 + 1)))) (
    k0 toArray0_0 toArray0_1)
def triple_system_bose_l2 {ρ : Type} (n : Nat) (t1 : Int) (t4 : Int) (t12 : Int) (toArray0_0 : List (List Int)) (toArray0_1 : Int) (t13 : Int) (k0 : List (List Int) → Int → Option ρ) : Option ρ :=
  iterM (fun (s : (List (List Int)) × Int × Int) nx => triple_system_bose_s2 n t1 t4 t12 s.1 s.2.1 s.2.2 (fun a0 a1 a2 => nx (a0, a1, a2)) k0) n (toArray0_0, toArray0_1, t13)
def triple_system_bose (n : Nat) (toArray0_0 : List (List Int)) (toArray0_1 : Int) (t1 : Int) : Option ((List (List Int)) × Int) :=
  triple_system_bose_l2 n t1 (IntKind.i64.wrap ((IntKind.i64.wrap (2 * t1)) + 1)) (IntKind.i64.wrap ((IntKind.i64.wrap (2 * t1)) + 1)) toArray0_0 toArray0_1 0 (fun x7' x8' =>
    some (x7', x8'))
def cmp_isNaN_int (_n : Nat) (x0 : Int) : Option (Bool) :=
  some (x0 != x0)
def cmp_Compare_int (n : Nat) (x0 : Int) (y1 : Int) : Option (Int) :=
  bnd (cmp_isNaN_int n x0) fun z1' =>
  bnd (cmp_isNaN_int n y1) fun z2' =>
  brO z1' (
    brO z2' (
      some 0) (
      some (-1))) (
    brO z2' (
      some 1) (
      brO (decide (x0 < y1)) (
        some (-1)) (
        brO (decide (x0 > y1)) (
          some 1) (
          some 0))))
def slices_Compare_intint_s2 {ρ : Type} (n : Nat) (_s10 : List Int) (s21 : List Int) (t9 : List Int) (t10 : Int) (t11 : Int) (next : Int → Option ρ) (k0 : Option ρ) (k1 : Int → Option ρ) (k2 : Option ρ) : Option ρ :=
  brO (decide (t11 < t10)) (
    chk (0 ≤ t11) <|
    chk (t11 < (t9.length : Int)) <|
    bnd (t9[t11.toNat]?) fun b1' =>
    brO (decide (t11 ≥ (s21.length : Int))) (
      k0) (
      chk (0 ≤ t11) <|
      chk (t11 < (s21.length : Int)) <|
      bnd (s21[t11.toNat]?) fun b2' =>
      bnd (cmp_Compare_int n b1' b2') fun z3' =>
      brO (z3' != 0) (
        k1 z3') (
        next (IntKind.i64.wrap (t11 + 1))))) (
    k2)
def slices_Compare_intint_l2 {ρ : Type} (n : Nat) (s10 : List Int) (s21 : List Int) (t9 : List Int) (t10 : Int) (t11 : Int) (k0 : Option ρ) (k1 : Int → Option ρ) (k2 : Option ρ) : Option ρ :=
  iterM (fun (s : Int) nx => slices_Compare_intint_s2 n s10 s21 t9 t10 s nx k0 k1 k2) n t11
def slices_Compare_intint (n : Nat) (s10 : List Int) (s21 : List Int) : Option (Int) :=
  slices_Compare_intint_l2 n s10 s21 s10 (s10.length : Int) 0 (
    some 1) (fun x4' =>
    some x4') (
    brO (decide ((s10.length : Int) < (s21.length : Int))) (
      some (-1)) (
      some 0))
def triple_system_design_1 (n : Nat) (a0 : List Int) (b1 : List Int) : Option (Int) :=
  bnd (slices_Compare_intint n a0 b1) fun z1' =>
  some z1'

def triple_system_design (n : Nat) (s_0_0 : List (List Int)) (s_0_1 : Int) : Option (Int × (List (List Int)) × (List (List Int)) × Int) :=
  bnd (sortLm n s_0_0) fun z1' =>
  some (s_0_1, z1', z1', s_0_1)
def triple_system_skolem_s6 {ρ : Type} (n : Nat) (t1 : Int) (t4 : Int) (t5 : Int) (_t13 : Int) (_t14 : Int) (toArray0_0 : List (List Int)) (toArray0_1 : Int) (t29 : Int) (next : List (List Int) → Int → Int → Option ρ) (k0 : List (List Int) → Int → Option ρ) : Option ρ :=
  brO (decide (t29 < 3)) (
    bnd (triple_lister_add n toArray0_0 toArray0_1 (IntKind.i64.wrap (6 * t1)) (IntKind.i64.wrap ((IntKind.i64.wrap (t5 + t1)) + (IntKind.i64.wrap (t4 * t29)))) (IntKind.i64.wrap (t5 + (IntKind.i64.wrap (t4 * ((IntKind.i64.wrap (t29 + 1)).tmod 3)))))) fun z2' =>
    next z2'.1 z2'.2 (IntKind.i64.wrap (t29 + 1))) (
    k0 toArray0_0 toArray0_1)
def triple_system_skolem_l6 {ρ : Type} (n : Nat) (t1 : Int) (t4 : Int) (t5 : Int) (t13 : Int) (t14 : Int) (toArray0_0 : List (List Int)) (toArray0_1 : Int) (t29 : Int) (k0 : List (List Int) → Int → Option ρ) : Option ρ :=
  iterM (fun (s : (List (List Int)) × Int × Int) nx => triple_system_skolem_s6 n t1 t4 t5 t13 t14 s.1 s.2.1 s.2.2 (fun a0 a1 a2 => nx (a0, a1, a2)) k0) n (toArray0_0, toArray0_1, t29)
def triple_system_skolem_s2 {ρ : Type} (n : Nat) (t1 : Int) (t4 : Int) (t13 : Int) (toArray0_0 : List (List Int)) (toArray0_1 : Int) (t14 : Int) (next : List (List Int) → Int → Int → Option ρ) (k0 : List (List Int) → Int → Option ρ) : Option ρ :=
  brO (decide (t14 < t13)) (
    bnd (triple_lister_add n toArray0_0 toArray0_1 t14 (IntKind.i64.wrap (t14 + t4)) (IntKind.i64.wrap (t14 + (IntKind.i64.wrap (2 * t4))))) fun z1' =>
    triple_system_skolem_l6 n t1 t4 t14 t13 t14 z1'.1 z1'.2 0 (fun x3' x4' =>
      next x3' x4' (IntKind.i64.wrap (t14 + 1)))) (
    k0 toArray0_0 toArray0_1)
def triple_system_skolem_l2 {ρ : Type} (n : Nat) (t1 : Int) (t4 : Int) (t13 : Int) (toArray0_0 : List (List Int)) (toArray0_1 : Int) (t14 : Int) (k0 : List (List Int) → Int → Option ρ) : Option ρ :=
  iterM (fun (s : (List (List Int)) × Int × Int) nx => triple_system_skolem_s2 n t1 t4 t13 s.1 s.2.1 s.2.2 (fun a0 a1 a2 => nx (a0, a1, a2)) k0) n (toArray0_0, toArray0_1, t14)
def triple_system_skolem_s22 {ρ : Type} (n : Nat) (_t1 : Int) (t4 : Int) (t7 : Int) (t8 : Int) (t9 : Int) (_t54 : Int) (_t55 : Int) (toArray0_0 : List (List Int)) (toArray0_1 : Int) (t80 : Int) (next : List (List Int) → Int → Int → Option ρ) (k0 : List (List Int) → Int → Option ρ) : Option ρ :=
  brO (decide (t80 < 3)) (
    bnd (triple_lister_add n toArray0_0 toArray0_1 (IntKind.i64.wrap (t7 + (IntKind.i64.wrap (t4 * t80)))) (IntKind.i64.wrap (t8 + (IntKind.i64.wrap (t4 * t80)))) (IntKind.i64.wrap (t9 + (IntKind.i64.wrap (t4 * ((IntKind.i64.wrap (t80 + 1)).tmod 3)))))) fun z7' =>
    next z7'.1 z7'.2 (IntKind.i64.wrap (t80 + 1))) (
    k0 toArray0_0 toArray0_1)
def triple_system_skolem_l22 {ρ : Type} (n : Nat) (t1 : Int) (t4 : Int) (t7 : Int) (t8 : Int) (t9 : Int) (t54 : Int) (t55 : Int) (toArray0_0 : List (List Int)) (toArray0_1 : Int) (t80 : Int) (k0 : List (List Int) → Int → Option ρ) : Option ρ :=
  iterM (fun (s : (List (List Int)) × Int × Int) nx => triple_system_skolem_s22 n t1 t4 t7 t8 t9 t54 t55 s.1 s.2.1 s.2.2 (fun a0 a1 a2 => nx (a0, a1, a2)) k0) n (toArray0_0, toArray0_1, t80)
def triple_system_skolem_s15 {ρ : Type} (n : Nat) (t1 : Int) (t4 : Int) (t7 : Int) (t54 : Int) (t55 : Int) (toArray0_0 : List (List Int)) (toArray0_1 : Int) (t8 : Int) (next : List (List Int) → Int → Int → Option ρ) (k0 : List (List Int) → Int → Option ρ) : Option ρ :=
  brO (decide (t8 < t4)) (
    if t4 = 0 then none else
    brO ((((IntKind.i64.wrap (t7 + t8)).tmod t4).tmod 2) == 0) (
      triple_system_skolem_l22 n t1 t4 t7 t8 (IntKind.i64.wrap (((IntKind.i64.wrap (t7 + t8)).tmod t4).tdiv 2)) t54 t55 toArray0_0 toArray0_1 0 (fun x8' x9' =>
        next x8' x9' (IntKind.i64.wrap (t8 + 1)))) (
      triple_system_skolem_l22 n t1 t4 t7 t8 (IntKind.i64.wrap ((IntKind.i64.wrap ((IntKind.i64.wrap (((IntKind.i64.wrap (t7 + t8)).tmod t4) - 1)).tdiv 2)) + t1)) t54 t55 toArray0_0 toArray0_1 0 (fun x10' x11' =>
        next x10' x11' (IntKind.i64.wrap (t8 + 1))))) (
    k0 toArray0_0 toArray0_1)
def triple_system_skolem_l15 {ρ : Type} (n : Nat) (t1 : Int) (t4 : Int) (t7 : Int) (t54 : Int) (t55 : Int) (toArray0_0 : List (List Int)) (toArray0_1 : Int) (t8 : Int) (k0 : List (List Int) → Int → Option ρ) : Option ρ :=
  iterM (fun (s : (List (List Int)) × Int × Int) nx => triple_system_skolem_s15 n t1 t4 t7 t54 t55 s.1 s.2.1 s.2.2 (fun a0 a1 a2 => nx (a0, a1, a2)) k0) n (toArray0_0, toArray0_1, t8)
def triple_system_skolem_s12 {ρ : Type} (n : Nat) (t1 : Int) (t4 : Int) (t54 : Int) (toArray0_0 : List (List Int)) (toArray0_1 : Int) (t55 : Int) (next : List (List Int) → Int → Int → Option ρ) (k0 : List (List Int) → Int → Option ρ) : Option ρ :=
  brO (decide (t55 < t54)) (
    triple_system_skolem_l15 n t1 t4 t55 t54 t55 toArray0_0 toArray0_1 (IntKind.i64.wrap (t55 + 1)) (fun x12' x13' =>
      next x12' x13' (IntKind.i64.wrap (t55 + 1)))) (
    k0 toArray0_0 toArray0_1)
def triple_system_skolem_l12 {ρ : Type} (n : Nat) (t1 : Int) (t4 : Int) (t54 : Int) (toArray0_0 : List (List Int)) (toArray0_1 : Int) (t55 : Int) (k0 : List (List Int) → Int → Option ρ) : Option ρ :=
  iterM (fun (s : (List (List Int)) × Int × Int) nx => triple_system_skolem_s12 n t1 t4 t54 s.1 s.2.1 s.2.2 (fun a0 a1 a2 => nx (a0, a1, a2)) k0) n (toArray0_0, toArray0_1, t55)
def triple_system_skolem (n : Nat) (toArray0_0 : List (List Int)) (toArray0_1 : Int) (t1 : Int) : Option ((List (List Int)) × Int) :=
  triple_system_skolem_l2 n t1 (IntKind.i64.wrap (2 * t1)) t1 toArray0_0 toArray0_1 0 (fun x5' x6' =>
    triple_system_skolem_l12 n t1 (IntKind.i64.wrap (2 * t1)) (IntKind.i64.wrap (2 * t1)) x5' x6' 0 (fun x14' x15' =>
      some (x14', x15')))
def triple_Make (n : Nat) (v0 : Int) : Option (Int × (List (List Int)) × Int) :=
  brO (decide (v0 < 1)) (
    some (0, [], 1)) (
    brO (decide (v0 > 33)) (
      some (0, [], 1)) (
      brO ((v0.tmod 6) == 3) (
        bnd (triple_system_bose n ([]) v0 (IntKind.i64.wrap (v0.tdiv 6))) fun z1' =>
        bnd (triple_system_design n z1'.1 z1'.2) fun z2' =>
        some (z2'.1, z2'.2.1, 0)) (
        brO ((v0.tmod 6) == 1) (
          bnd (triple_system_skolem n ([]) v0 (IntKind.i64.wrap (v0.tdiv 6))) fun z3' =>
          bnd (triple_system_design n z3'.1 z3'.2) fun z4' =>
          some (z4'.1, z4'.2.1, 0)) (
          some (0, [], 4)))))
def design_Check_1 (_n : Nat) (p0 : Int) (t1_0 : Int) (_t1_1 : List (List Int)) : Option (Bool) :=
  brO (decide (p0 < 0)) (
    some true) (
    some (decide (p0 ≥ t1_0)))
def slices_IndexFunc_intint__design_Check_1_s2 {ρ : Type} (n : Nat) (s_0 : List Int) (f1_0 : Int) (f1_1 : List (List Int)) (t7 : Int) (t8 : Int) (next : Int → Option ρ) (k0 : Int → Option ρ) (k1 : Option ρ) : Option ρ :=
  brO (decide (t8 < t7)) (
    chk (0 ≤ t8) <|
    chk (t8 < (s_0.length : Int)) <|
    bnd (s_0[t8.toNat]?) fun b1' =>
    bnd (design_Check_1 n b1' f1_0 f1_1) fun z2' =>
    brO z2' (
      k0 t8) (
      next (IntKind.i64.wrap (t8 + 1)))) (
    k1)
def slices_IndexFunc_intint__design_Check_1_l2 {ρ : Type} (n : Nat) (s_0 : List Int) (f1_0 : Int) (f1_1 : List (List Int)) (t7 : Int) (t8 : Int) (k0 : Int → Option ρ) (k1 : Option ρ) : Option ρ :=
  iterM (fun (s : Int) nx => slices_IndexFunc_intint__design_Check_1_s2 n s_0 f1_0 f1_1 t7 s nx k0 k1) n t8
def slices_IndexFunc_intint__design_Check_1 (n : Nat) (s_0 : List Int) (f1_0 : Int) (f1_1 : List (List Int)) : Option (Int) :=
  slices_IndexFunc_intint__design_Check_1_l2 n s_0 f1_0 f1_1 (s_0.length : Int) 0 (fun x3' =>
    some x3') (
    some (-1))
def slices_ContainsFunc_intint__design_Check_1 (n : Nat) (s_0 : List Int) (f1_0 : Int) (f1_1 : List (List Int)) : Option (Bool) :=
  bnd (slices_IndexFunc_intint__design_Check_1 n s_0 f1_0 f1_1) fun z1' =>
  some (decide (z1' ≥ 0))
def design_Check_s11 {ρ : Type} (_n : Nat) (_d1_0 : Int) (_d1_1 : List (List Int)) (b4 : List Int) (_t21 : List (List Int)) (_t22 : Int) (_t23 : Int) (i5 : Int) (next : Int → Option ρ) (k0 : Option ρ) (k1 : Option ρ) : Option ρ :=
  brO (decide (i5 < (b4.length : Int))) (
    chk (0 ≤ i5) <|
    chk (i5 < (b4.length : Int)) <|
    bnd (b4[i5.toNat]?) fun b3' =>
    chk (0 ≤ (IntKind.i64.wrap (i5 - 1))) <|
    chk ((IntKind.i64.wrap (i5 - 1)) < (b4.length : Int)) <|
    bnd (b4[(IntKind.i64.wrap (i5 - 1)).toNat]?) fun b4' =>
    brO (decide (b3' ≤ b4')) (
      k0) (
      next (IntKind.i64.wrap (i5 + 1)))) (
    k1)
def design_Check_l11 {ρ : Type} (n : Nat) (d1_0 : Int) (d1_1 : List (List Int)) (b4 : List Int) (t21 : List (List Int)) (t22 : Int) (t23 : Int) (i5 : Int) (k0 : Option ρ) (k1 : Option ρ) : Option ρ :=
  iterM (fun (s : Int) nx => design_Check_s11 n d1_0 d1_1 b4 t21 t22 t23 s nx k0 k1) n i5
def design_Check_s6 {ρ : Type} (n : Nat) (d1_0 : Int) (d1_1 : List (List Int)) (t21 : List (List Int)) (t22 : Int) (t23 : Int) (next : Int → Option ρ) (k0 : Option ρ) (k1 : Option ρ) (k2 : Option ρ) : Option ρ :=
  brO (decide (t23 < t22)) (
    chk (0 ≤ t23) <|
    chk (t23 < (t21.length : Int)) <|
    bnd (t21[t23.toNat]?) fun r1' =>
    bnd (slices_ContainsFunc_intint__design_Check_1 n r1' d1_0 d1_1) fun z2' =>
    brO z2' (
      k0) (
      design_Check_l11 n d1_0 d1_1 r1' t21 t22 t23 1 (
        k1) (
        next (IntKind.i64.wrap (t23 + 1))))) (
    k2)
def design_Check_l6 {ρ : Type} (n : Nat) (d1_0 : Int) (d1_1 : List (List Int)) (t21 : List (List Int)) (t22 : Int) (t23 : Int) (k0 : Option ρ) (k1 : Option ρ) (k2 : Option ρ) : Option ρ :=
  iterM (fun (s : Int) nx => design_Check_s6 n d1_0 d1_1 t21 t22 s nx k0 k1 k2) n t23
def design_Check (n : Nat) (d0_0 : Int) (d0_1 : List (List Int)) : Option (Int) :=
  brO (decide (d0_0 < 1)) (
    some 1) (
    brO (decide (d0_0 > 40)) (
      some 1) (
      brO (decide ((d0_1.length : Int) > 200)) (
        some 3) (
        design_Check_l6 n d0_0 d0_1 d0_1 (d0_1.length : Int) 0 (
          some 1) (
          some 2) (
          some 0))))
def triple_open_1 (_n : Nat) (b0 : List Int) : Option (Bool) :=
  some ((b0.length : Int) != 3)
def slices_IndexFunc_intint__triple_open_1_s2 {ρ : Type} (n : Nat) (s_0 : List (List Int)) (t7 : Int) (t8 : Int) (next : Int → Option ρ) (k0 : Int → Option ρ) (k1 : Option ρ) : Option ρ :=
  brO (decide (t8 < t7)) (
    chk (0 ≤ t8) <|
    chk (t8 < (s_0.length : Int)) <|
    bnd (s_0[t8.toNat]?) fun r1' =>
    bnd (triple_open_1 n r1') fun z2' =>
    brO z2' (
      k0 t8) (
      next (IntKind.i64.wrap (t8 + 1)))) (
    k1)
def slices_IndexFunc_intint__triple_open_1_l2 {ρ : Type} (n : Nat) (s_0 : List (List Int)) (t7 : Int) (t8 : Int) (k0 : Int → Option ρ) (k1 : Option ρ) : Option ρ :=
  iterM (fun (s : Int) nx => slices_IndexFunc_intint__triple_open_1_s2 n s_0 t7 s nx k0 k1) n t8
def slices_IndexFunc_intint__triple_open_1 (n : Nat) (s_0 : List (List Int)) : Option (Int) :=
  slices_IndexFunc_intint__triple_open_1_l2 n s_0 (s_0.length : Int) 0 (fun x3' =>
    some x3') (
    some (-1))
def slices_ContainsFunc_intint__triple_open_1 (n : Nat) (s_0 : List (List Int)) : Option (Bool) :=
  bnd (slices_IndexFunc_intint__triple_open_1 n s_0) fun z1' =>
  some (decide (z1' ≥ 0))
def triple_third_s6 {ρ : Type} (_n : Nat) (_toArray0 : List (List Int)) (_t2 : List Int) (t5 : Int) (_t13 : Int) (t4 : List Int) (t16 : Int) (next : List Int → Int → Option ρ) (k0 : List Int → Option ρ) : Option ρ :=
  brO (decide (t16 < 40)) (
    chk (0 ≤ t5) <|
    chk (t5 < 40) <|
    chk (0 ≤ t16) <|
    chk (t16 < 40) <|
    chk (((0 + (t5.toNat * 40)) + (t16.toNat * 1)) < t4.length) <|
    next (t4.set ((0 + (t5.toNat * 40)) + (t16.toNat * 1)) (-1)) (IntKind.i64.wrap (t16 + 1))) (
    k0 t4)
def triple_third_l6 {ρ : Type} (n : Nat) (toArray0 : List (List Int)) (t2 : List Int) (t5 : Int) (t13 : Int) (t4 : List Int) (t16 : Int) (k0 : List Int → Option ρ) : Option ρ :=
  iterM (fun (s : (List Int) × Int) nx => triple_third_s6 n toArray0 t2 t5 t13 s.1 s.2 (fun a0 a1 => nx (a0, a1)) k0) n (t4, t16)
def triple_third_s3 {ρ : Type} (n : Nat) (toArray0 : List (List Int)) (t2 : List Int) (t4 : List Int) (t13 : Int) (next : List Int → Int → Option ρ) (k0 : List Int → Option ρ) : Option ρ :=
  brO (decide (t13 < 40)) (
    triple_third_l6 n toArray0 t2 t13 t13 t4 0 (fun x1' =>
      next x1' (IntKind.i64.wrap (t13 + 1)))) (
    k0 t4)
def triple_third_l3 {ρ : Type} (n : Nat) (toArray0 : List (List Int)) (t2 : List Int) (t4 : List Int) (t13 : Int) (k0 : List Int → Option ρ) : Option ρ :=
  iterM (fun (s : (List Int) × Int) nx => triple_third_s3 n toArray0 t2 s.1 s.2 (fun a0 a1 => nx (a0, a1)) k0) n (t4, t13)
def triple_third_s15 {ρ : Type} (_n : Nat) (t2 : List Int) (t8 : List Int) (_t25 : List (List Int)) (_t26 : Int) (_t27 : Int) (t31 : List Int) (t32 : Int) (t4 : List Int) (t33 : Int) (next : List Int → Int → Option ρ) (k0 : List Int → Option ρ) (k1 : List Int → Option ρ) : Option ρ :=
  brO (decide (t33 < t32)) (
    chk (0 ≤ t33) <|
    chk (t33 < (t31.length : Int)) <|
    bnd (t31[t33.toNat]?) fun b4' =>
    chk (0 ≤ ((IntKind.i64.wrap (t33 + 1)).tmod 3)) <|
    chk (((IntKind.i64.wrap (t33 + 1)).tmod 3) < (t8.length : Int)) <|
    bnd (t8[((IntKind.i64.wrap (t33 + 1)).tmod 3).toNat]?) fun b5' =>
    chk (0 ≤ ((IntKind.i64.wrap (t33 + 2)).tmod 3)) <|
    chk (((IntKind.i64.wrap (t33 + 2)).tmod 3) < (t8.length : Int)) <|
    bnd (t8[((IntKind.i64.wrap (t33 + 2)).tmod 3).toNat]?) fun b6' =>
    chk (0 ≤ b4') <|
    chk (b4' < 40) <|
    chk (0 ≤ b5') <|
    chk (b5' < 40) <|
    bnd (t4[((0 + (b4'.toNat * 40)) + (b5'.toNat * 1))]?) fun b7' =>
    brO (decide (b7' ≥ 0)) (
      chk (0 = 0) <|
      chk ((List.replicate 1600 (0 : Int)).length = 1600) <|
      chk (t2.length = 1600) <|
      k0 (List.replicate 1600 (0 : Int))) (
      chk (0 ≤ b4') <|
      chk (b4' < 40) <|
      chk (0 ≤ b5') <|
      chk (b5' < 40) <|
      chk (((0 + (b4'.toNat * 40)) + (b5'.toNat * 1)) < t4.length) <|
      chk (0 ≤ b5') <|
      chk (b5' < 40) <|
      chk (0 ≤ b4') <|
      chk (b4' < 40) <|
      chk (((0 + (b5'.toNat * 40)) + (b4'.toNat * 1)) < (t4.set ((0 + (b4'.toNat * 40)) + (b5'.toNat * 1)) b6').length) <|
      next ((t4.set ((0 + (b4'.toNat * 40)) + (b5'.toNat * 1)) b6').set ((0 + (b5'.toNat * 40)) + (b4'.toNat * 1)) b6') (IntKind.i64.wrap (t33 + 1)))) (
    k1 t4)
def triple_third_l15 {ρ : Type} (n : Nat) (t2 : List Int) (t8 : List Int) (t25 : List (List Int)) (t26 : Int) (t27 : Int) (t31 : List Int) (t32 : Int) (t4 : List Int) (t33 : Int) (k0 : List Int → Option ρ) (k1 : List Int → Option ρ) : Option ρ :=
  iterM (fun (s : (List Int) × Int) nx => triple_third_s15 n t2 t8 t25 t26 t27 t31 t32 s.1 s.2 (fun a0 a1 => nx (a0, a1)) k0 k1) n (t4, t33)
def triple_third_s12 {ρ : Type} (n : Nat) (t2 : List Int) (t25 : List (List Int)) (t26 : Int) (t4 : List Int) (t27 : Int) (next : List Int → Int → Option ρ) (k0 : List Int → Option ρ) (k1 : List Int → Option ρ) : Option ρ :=
  brO (decide (t27 < t26)) (
    chk (0 ≤ t27) <|
    chk (t27 < (t25.length : Int)) <|
    bnd (t25[t27.toNat]?) fun r3' =>
    triple_third_l15 n t2 r3' t25 t26 t27 r3' (r3'.length : Int) t4 0 (fun x8' =>
      k0 x8') (fun x9' =>
      next x9' (IntKind.i64.wrap (t27 + 1)))) (
    k1 t4)
def triple_third_l12 {ρ : Type} (n : Nat) (t2 : List Int) (t25 : List (List Int)) (t26 : Int) (t4 : List Int) (t27 : Int) (k0 : List Int → Option ρ) (k1 : List Int → Option ρ) : Option ρ :=
  iterM (fun (s : (List Int) × Int) nx => triple_third_s12 n t2 t25 t26 s.1 s.2 (fun a0 a1 => nx (a0, a1)) k0 k1) n (t4, t27)
def triple_third (n : Nat) (toArray0 : List (List Int)) : Option ((List Int) × Bool) :=
  triple_third_l3 n toArray0 (List.replicate 1600 (0 : Int)) (List.replicate 1600 (0 : Int)) 0 (fun x2' =>
    triple_third_l12 n (List.replicate 1600 (0 : Int)) toArray0 (toArray0.length : Int) x2' 0 (fun x10' =>
      chk ((x10'.length == 1600) = true) <|
      some (x10', false)) (fun x11' =>
      chk (0 = 0) <|
      chk (x11'.length = 1600) <|
      chk (0 = 0) <|
      chk (x11'.length = 1600) <|
      chk ((List.replicate 1600 (0 : Int)).length = 1600) <|
      chk ((x11'.length == 1600) = true) <|
      some (x11', true)))
def triple_open (n : Nat) (d0_0 : Int) (d0_1 : List (List Int)) : Option ((List Int) × Int) :=
  bnd (design_Check n d0_0 d0_1) fun z1' =>
  brO (z1' != 0) (
    chk (0 = 0) <|
    chk ((List.replicate 1600 (0 : Int)).length = 1600) <|
    chk ((List.replicate 1600 (0 : Int)).length = 1600) <|
    chk (((List.replicate 1600 (0 : Int)).length == 1600) = true) <|
    some ((List.replicate 1600 (0 : Int)), z1')) (
    bnd (slices_ContainsFunc_intint__triple_open_1 n d0_1) fun z2' =>
    brO z2' (
      chk (0 = 0) <|
      chk ((List.replicate 1600 (0 : Int)).length = 1600) <|
      chk ((List.replicate 1600 (0 : Int)).length = 1600) <|
      chk (((List.replicate 1600 (0 : Int)).length == 1600) = true) <|
      some ((List.replicate 1600 (0 : Int)), 4)) (
      bnd (triple_third n d0_1) fun z3' =>
      chk (0 = 0) <|
      chk (z3'.1.length = 1600) <|
      chk ((List.replicate 1600 (0 : Int)).length = 1600) <|
      brO (!z3'.2) (
        chk (0 = 0) <|
        chk ((List.replicate 1600 (0 : Int)).length = 1600) <|
        chk ((List.replicate 1600 (0 : Int)).length = 1600) <|
        chk (((List.replicate 1600 (0 : Int)).length == 1600) = true) <|
        some ((List.replicate 1600 (0 : Int)), 4)) (
        brO ((IntKind.i64.wrap (6 * (d0_1.length : Int))) != (IntKind.i64.wrap (d0_0 * (IntKind.i64.wrap (d0_0 - 1))))) (
          chk (0 = 0) <|
          chk ((List.replicate 1600 (0 : Int)).length = 1600) <|
          chk ((List.replicate 1600 (0 : Int)).length = 1600) <|
          chk (((List.replicate 1600 (0 : Int)).length == 1600) = true) <|
          some ((List.replicate 1600 (0 : Int)), 4)) (
          chk (0 = 0) <|
          chk (z3'.1.length = 1600) <|
          chk (0 = 0) <|
          chk (z3'.1.length = 1600) <|
          chk ((List.replicate 1600 (0 : Int)).length = 1600) <|
          chk ((z3'.1.length == 1600) = true) <|
          some (z3'.1, 0)))))
def triple_Check (n : Nat) (d0_0 : Int) (d0_1 : List (List Int)) : Option (Int) :=
  bnd (triple_open n d0_0 d0_1) fun z1' =>
  chk (0 = 0) <|
  chk (z1'.1.length = 1600) <|
  chk ((List.replicate 1600 (0 : Int)).length = 1600) <|
  some z1'.2
def law2_tripleFact (n : Nat) : Option (Bool) :=
  bnd (triple_Make n 7) fun z1' =>
  bnd (triple_Check n z1'.1 z1'.2.1) fun z2' =>
  brO (z1'.2.2 == 0) (
    brO (z2' == 0) (
      brO (z1'.1 == 7) (
        some ((z1'.2.1.length : Int) == 7)) (
        some false)) (
      some false)) (
    some false)
def design_Level_1 (_n : Nat) (b0 : List Int) (t1 : Int) : Option (Bool) :=
  some ((b0.length : Int) != t1)
def slices_IndexFunc_intint__design_Level_1_s2 {ρ : Type} (n : Nat) (s_0 : List (List Int)) (f1 : Int) (t7 : Int) (t8 : Int) (next : Int → Option ρ) (k0 : Int → Option ρ) (k1 : Option ρ) : Option ρ :=
  brO (decide (t8 < t7)) (
    chk (0 ≤ t8) <|
    chk (t8 < (s_0.length : Int)) <|
    bnd (s_0[t8.toNat]?) fun r1' =>
    bnd (design_Level_1 n r1' f1) fun z2' =>
    brO z2' (
      k0 t8) (
      next (IntKind.i64.wrap (t8 + 1)))) (
    k1)
def slices_IndexFunc_intint__design_Level_1_l2 {ρ : Type} (n : Nat) (s_0 : List (List Int)) (f1 : Int) (t7 : Int) (t8 : Int) (k0 : Int → Option ρ) (k1 : Option ρ) : Option ρ :=
  iterM (fun (s : Int) nx => slices_IndexFunc_intint__design_Level_1_s2 n s_0 f1 t7 s nx k0 k1) n t8
def slices_IndexFunc_intint__design_Level_1 (n : Nat) (s_0 : List (List Int)) (f1 : Int) : Option (Int) :=
  slices_IndexFunc_intint__design_Level_1_l2 n s_0 f1 (s_0.length : Int) 0 (fun x3' =>
    some x3') (
    some (-1))
def slices_ContainsFunc_intint__design_Level_1 (n : Nat) (s_0 : List (List Int)) (f1 : Int) : Option (Bool) :=
  bnd (slices_IndexFunc_intint__design_Level_1 n s_0 f1) fun z1' =>
  some (decide (z1' ≥ 0))
def design_sets_s7 {ρ : Type} (_n : Nat) (_out3 : List Int) (_t10 : List (List Int)) (_t11 : Int) (_t12 : Int) (t16 : List Int) (t17 : Int) (s_6 : Int) (t18 : Int) (next : Int → Int → Option ρ) (k0 : Int → Option ρ) : Option ρ :=
  brO (decide (t18 < t17)) (
    chk (0 ≤ t18) <|
    chk (t18 < (t16.length : Int)) <|
    bnd (t16[t18.toNat]?) fun b2' =>
    if b2' < 0 then none else
    next (IntKind.u64.wrap ((BitVec.ofInt 64 s_6 ||| BitVec.ofInt 64 (IntKind.u64.wrap (1 * 2 ^ (min b2'.toNat 64)))).toNat : Int)) (IntKind.i64.wrap (t18 + 1))) (
    k0 s_6)
def design_sets_l7 {ρ : Type} (n : Nat) (out3 : List Int) (t10 : List (List Int)) (t11 : Int) (t12 : Int) (t16 : List Int) (t17 : Int) (s_6 : Int) (t18 : Int) (k0 : Int → Option ρ) : Option ρ :=
  iterM (fun (s : Int × Int) nx => design_sets_s7 n out3 t10 t11 t12 t16 t17 s.1 s.2 (fun a0 a1 => nx (a0, a1)) k0) n (s_6, t18)
def design_sets_s3 {ρ : Type} (n : Nat) (t10 : List (List Int)) (t11 : Int) (out3 : List Int) (t12 : Int) (next : List Int → Int → Option ρ) (k0 : List Int → Option ρ) : Option ρ :=
  brO (decide (t12 < t11)) (
    chk (0 ≤ t12) <|
    chk (t12 < (t10.length : Int)) <|
    bnd (t10[t12.toNat]?) fun r1' =>
    design_sets_l7 n out3 t10 t11 t12 r1' (r1'.length : Int) 0 0 (fun x3' =>
      chk (80 = 80) <|
      chk ((out3 ++ [x3']).length < 2 ^ 40) <|
      next (out3 ++ [x3']) (IntKind.i64.wrap (t12 + 1)))) (
    k0 out3)
def design_sets_l3 {ρ : Type} (n : Nat) (t10 : List (List Int)) (t11 : Int) (out3 : List Int) (t12 : Int) (k0 : List Int → Option ρ) : Option ρ :=
  iterM (fun (s : (List Int) × Int) nx => design_sets_s3 n t10 t11 s.1 s.2 (fun a0 a1 => nx (a0, a1)) k0) n (out3, t12)
def design_sets (n : Nat) (_d0_0 : Int) (d0_1 : List (List Int)) : Option (List Int) :=
  design_sets_l3 n d0_1 (d0_1.length : Int) ([]) 0 (fun x4' =>
    some x4')

def design_Level_s16 {ρ : Type} (_n : Nat) (_t4 : Int) (_t5 : Int) (_t6 : Int) (_t8 : Int) (_t9 : Int) (t10 : List Int) (t11 : Int) (t53 : Int) (t12 : Int) (t54 : Int) (next : Int → Int → Option ρ) (k0 : Int → Option ρ) : Option ρ :=
  brO (decide (t54 < t53)) (
    chk (0 ≤ t54) <|
    chk (t54 < (t10.length : Int)) <|
    bnd (t10[t54.toNat]?) fun b6' =>
    brO ((IntKind.u64.wrap ((BitVec.ofInt 64 b6' &&& BitVec.ofInt 64 t11).toNat : Int)) == t11) (
      next (IntKind.i64.wrap (t12 + 1)) (IntKind.i64.wrap (t54 + 1))) (
      next t12 (IntKind.i64.wrap (t54 + 1)))) (
    k0 t12)
def design_Level_l16 {ρ : Type} (n : Nat) (t4 : Int) (t5 : Int) (t6 : Int) (t8 : Int) (t9 : Int) (t10 : List Int) (t11 : Int) (t53 : Int) (t12 : Int) (t54 : Int) (k0 : Int → Option ρ) : Option ρ :=
  iterM (fun (s : Int × Int) nx => design_Level_s16 n t4 t5 t6 t8 t9 t10 t11 t53 s.1 s.2 (fun a0 a1 => nx (a0, a1)) k0) n (t12, t54)
def design_Level_rs {ρ : Type} (n : Nat) (t4 : Int) (t5 : Int) (t6 : Int) (t8 : Int) (t10 : List Int) (xx : Int) (t9 : Int) (next : Int → Option ρ) (kx : Int → Int → Int → Option ρ) : Option ρ :=
  design_Level_l16 n t4 t5 t6 t8 t9 t10 xx (t10.length : Int) 0 0 (fun x7' =>
    brO (decide (t9 ≥ 0)) (
      brO (x7' != t9) (
        kx 0 0 4) (
        next x7')) (
      next x7'))
def design_Level_rf {ρ : Type} (n : Nat) (pts tt : Int) (t4 : Int) (t5 : Int) (t6 : Int) (t8 : Int) (t10 : List Int) (t9 : Int) (k0 : Int → Option ρ) (k1 : Int → Int → Int → Option ρ) : Option ρ :=
  chk (0 ≤ pts) <| chk (pts ≤ 64) <| chk (0 ≤ tt) <| chk (tt ≤ 64) <| rangeC (fun xx (s : Int) nx (kx : (Int × Int × Int) → Option ρ) => design_Level_rs n t4 t5 t6 t8 t10 xx s nx (fun a0 a1 a2 => kx (a0, a1, a2))) (fun (d : Int × Int × Int) => k1 d.1 d.2.1 d.2.2) (chs pts tt.toNat 0 0) t9 (fun (s : Int) => k0 s)
def design_Level_g24 {ρ : Type} (_n : Nat) (_t4 : Int) (_t5 : Int) (_t6 : Int) (_t8 : Int) (_t9 : Int) (_t10 : List Int) (k0 : Option ρ) : Option ρ :=
  k0
def design_Level (n : Nat) (toArray0_0 : Int) (toArray0_1 : List (List Int)) (t1 : Int) : Option (Int × Int × Int) :=
  bnd (design_Check n toArray0_0 toArray0_1) fun z1' =>
  brO (z1' != 0) (
    some (0, 0, z1')) (
    brO (decide (t1 < 0)) (
      some (0, 0, 1)) (
      brO (decide (t1 > 4)) (
        some (0, 0, 1)) (
        brO (decide (t1 > toArray0_0)) (
          some (0, 0, 1)) (
          brO ((toArray0_1.length : Int) == 0) (
            some (0, 0, 4)) (
            chk (0 ≤ (0 : Int)) <|
            chk ((0 : Int) < (toArray0_1.length : Int)) <|
            bnd (toArray0_1[0]?) fun r2' =>
            bnd (slices_ContainsFunc_intint__design_Level_1 n toArray0_1 (r2'.length : Int)) fun z3' =>
            brO z3' (
              some (0, 0, 4)) (
              bnd (design_sets n toArray0_0 toArray0_1) fun z4' =>
              bnd (choicesIm toArray0_0 t1) fun z5' =>
              design_Level_rf n z5'.1 z5'.2 0 0 0 (r2'.length : Int) z4' (-1) (fun x8' =>
                design_Level_g24 n 0 0 0 (r2'.length : Int) x8' z4' (
                  some ((r2'.length : Int), x8', 0))) (fun x9' x10' x11' =>
                some (x9', x10', x11'))))))))
def law2_TripleKirkman (n : Nat) (toArray0 : Int) (t1_0 : Int) (t1_1 : List (List Int)) : Option (Bool) :=
  bnd (law2_tripleFact n) fun z1' =>
  brO (!z1') (
    some false) (
    bnd (triple_Make n toArray0) fun z2' =>
    brO (z2'.2.2 == 0) (
      bnd (design_Level n z2'.1 z2'.2.1 2) fun z3' =>
      brO (decide (toArray0 > 1)) (
        brO (z3'.2.2 != 0) (
          some false) (
          brO (z3'.1 != 3) (
            some false) (
            brO (z3'.2.1 != 1) (
              some false) (
              brO (z2'.1 != toArray0) (
                some false) (
                brO ((IntKind.i64.wrap ((z2'.2.1.length : Int) * 6)) != (IntKind.i64.wrap (toArray0 * (IntKind.i64.wrap (toArray0 - 1))))) (
                  some false) (
                  bnd (triple_Check n t1_0 t1_1) fun z4' =>
                  brO (z4' != 0) (
                    some true) (
                    brO ((t1_0.tmod 6) == 1) (
                      some true) (
                      some ((t1_0.tmod 6) == 3))))))))) (
        brO (z2'.1 != toArray0) (
          some false) (
          brO ((IntKind.i64.wrap ((z2'.2.1.length : Int) * 6)) != (IntKind.i64.wrap (toArray0 * (IntKind.i64.wrap (toArray0 - 1))))) (
            some false) (
            bnd (triple_Check n t1_0 t1_1) fun z5' =>
            brO (z5' != 0) (
              some true) (
              brO ((t1_0.tmod 6) == 1) (
                some true) (
                some ((t1_0.tmod 6) == 3))))))) (
      brO (decide (toArray0 ≥ 1)) (
        brO (decide (toArray0 ≤ 33)) (
          brO ((toArray0.tmod 6) == 1) (
            some false) (
            brO ((toArray0.tmod 6) == 3) (
              some false) (
              bnd (triple_Check n t1_0 t1_1) fun z6' =>
              brO (z6' != 0) (
                some true) (
                brO ((t1_0.tmod 6) == 1) (
                  some true) (
                  some ((t1_0.tmod 6) == 3)))))) (
          bnd (triple_Check n t1_0 t1_1) fun z7' =>
          brO (z7' != 0) (
            some true) (
            brO ((t1_0.tmod 6) == 1) (
              some true) (
              some ((t1_0.tmod 6) == 3))))) (
        bnd (triple_Check n t1_0 t1_1) fun z8' =>
        brO (z8' != 0) (
          some true) (
          brO ((t1_0.tmod 6) == 1) (
            some true) (
            some ((t1_0.tmod 6) == 3))))))
def ref2_Lies_s2 {ρ : Type} (_n : Nat) (l0 : List Int) (x1 : Int) (i5 : Int) (next : Int → Option ρ) (k0 : Option ρ) (k1 : Option ρ) : Option ρ :=
  brO (decide (i5 < (l0.length : Int))) (
    chk (0 ≤ i5) <|
    chk (i5 < (l0.length : Int)) <|
    bnd (l0[i5.toNat]?) fun b1' =>
    brO (b1' == x1) (
      k0) (
      next (IntKind.i64.wrap (i5 + 1)))) (
    k1)
def ref2_Lies_l2 {ρ : Type} (n : Nat) (l0 : List Int) (x1 : Int) (i5 : Int) (k0 : Option ρ) (k1 : Option ρ) : Option ρ :=
  iterM (fun (s : Int) nx => ref2_Lies_s2 n l0 x1 s nx k0 k1) n i5
def ref2_Lies (n : Nat) (l0 : List Int) (x1 : Int) : Option (Bool) :=
  ref2_Lies_l2 n l0 x1 0 (
    some true) (
    some false)
def ref2_Together_s3 {ρ : Type} (n : Nat) (a0 : List Int) (b1 : List Int) (n_5 : Int) (i6 : Int) (next : Int → Int → Option ρ) (k0 : Int → Option ρ) : Option ρ :=
  brO (decide (i6 < (a0.length : Int))) (
    chk (0 ≤ i6) <|
    chk (i6 < (a0.length : Int)) <|
    bnd (a0[i6.toNat]?) fun b1' =>
    bnd (ref2_Lies n b1 b1') fun z2' =>
    brO z2' (
      next (IntKind.i64.wrap (n_5 + 1)) (IntKind.i64.wrap (i6 + 1))) (
      next n_5 (IntKind.i64.wrap (i6 + 1)))) (
    k0 n_5)
def ref2_Together_l3 {ρ : Type} (n : Nat) (a0 : List Int) (b1 : List Int) (n_5 : Int) (i6 : Int) (k0 : Int → Option ρ) : Option ρ :=
  iterM (fun (s : Int × Int) nx => ref2_Together_s3 n a0 b1 s.1 s.2 (fun a0 a1 => nx (a0, a1)) k0) n (n_5, i6)
def ref2_Together (n : Nat) (a0 : List Int) (b1 : List Int) : Option (Int) :=
  ref2_Together_l3 n a0 b1 0 0 (fun x3' =>
    some x3')
def ref2_GrowFault_s10 {ρ : Type} (_n : Nat) (toArray0 : Int) (_t1 : List (List Int)) (_t5 : Int) (t6 : List Int) (t7 : Int) (next : Int → Option ρ) (k0 : Option ρ) (k1 : Option ρ) : Option ρ :=
  brO (decide (t7 < (t6.length : Int))) (
    chk (0 ≤ t7) <|
    chk (t7 < (t6.length : Int)) <|
    bnd (t6[t7.toNat]?) fun b2' =>
    brO (decide (b2' < 0)) (
      k0) (
      chk (0 ≤ t7) <|
      chk (t7 < (t6.length : Int)) <|
      bnd (t6[t7.toNat]?) fun b3' =>
      brO (decide (b3' ≥ toArray0)) (
        k0) (
        next (IntKind.i64.wrap (t7 + 1))))) (
    k1)
def ref2_GrowFault_l10 {ρ : Type} (n : Nat) (toArray0 : Int) (t1 : List (List Int)) (t5 : Int) (t6 : List Int) (t7 : Int) (k0 : Option ρ) (k1 : Option ρ) : Option ρ :=
  iterM (fun (s : Int) nx => ref2_GrowFault_s10 n toArray0 t1 t5 t6 s nx k0 k1) n t7
def ref2_GrowFault_s6 {ρ : Type} (n : Nat) (toArray0 : Int) (t1 : List (List Int)) (t5 : Int) (next : Int → Option ρ) (k0 : Option ρ) (k1 : Option ρ) (k2 : Option ρ) : Option ρ :=
  brO (decide (t5 < (t1.length : Int))) (
    chk (0 ≤ t5) <|
    chk (t5 < (t1.length : Int)) <|
    bnd (t1[t5.toNat]?) fun r1' =>
    ref2_GrowFault_l10 n toArray0 t1 t5 r1' 0 (
      k0) (
      brO ((r1'.length : Int) != 3) (
        k1) (
        chk (0 ≤ (0 : Int)) <|
        chk ((0 : Int) < (r1'.length : Int)) <|
        bnd (r1'[0]?) fun b4' =>
        chk (0 ≤ (1 : Int)) <|
        chk ((1 : Int) < (r1'.length : Int)) <|
        bnd (r1'[1]?) fun b5' =>
        brO (decide (b4' ≥ b5')) (
          k1) (
          chk (0 ≤ (1 : Int)) <|
          chk ((1 : Int) < (r1'.length : Int)) <|
          bnd (r1'[1]?) fun b6' =>
          chk (0 ≤ (2 : Int)) <|
          chk ((2 : Int) < (r1'.length : Int)) <|
          bnd (r1'[2]?) fun b7' =>
          brO (decide (b6' ≥ b7')) (
            k1) (
            next (IntKind.i64.wrap (t5 + 1))))))) (
    k2)
def ref2_GrowFault_l6 {ρ : Type} (n : Nat) (toArray0 : Int) (t1 : List (List Int)) (t5 : Int) (k0 : Option ρ) (k1 : Option ρ) (k2 : Option ρ) : Option ρ :=
  iterM (fun (s : Int) nx => ref2_GrowFault_s6 n toArray0 t1 s nx k0 k1 k2) n t5
def ref2_GrowFault_s20 {ρ : Type} (n : Nat) (t1 : List (List Int)) (t8 : Int) (t9 : Int) (next : Int → Option ρ) (k0 : Option ρ) (k1 : Option ρ) : Option ρ :=
  brO (decide (t9 < t8)) (
    chk (0 ≤ t8) <|
    chk (t8 < (t1.length : Int)) <|
    bnd (t1[t8.toNat]?) fun r8' =>
    chk (0 ≤ t9) <|
    chk (t9 < (t1.length : Int)) <|
    bnd (t1[t9.toNat]?) fun r9' =>
    bnd (ref2_Together n r8' r9') fun z10' =>
    brO (decide (z10' > 1)) (
      k0) (
      next (IntKind.i64.wrap (t9 + 1)))) (
    k1)
def ref2_GrowFault_l20 {ρ : Type} (n : Nat) (t1 : List (List Int)) (t8 : Int) (t9 : Int) (k0 : Option ρ) (k1 : Option ρ) : Option ρ :=
  iterM (fun (s : Int) nx => ref2_GrowFault_s20 n t1 t8 s nx k0 k1) n t9
def ref2_GrowFault_s17 {ρ : Type} (n : Nat) (t1 : List (List Int)) (t8 : Int) (next : Int → Option ρ) (k0 : Option ρ) (k1 : Option ρ) : Option ρ :=
  brO (decide (t8 < (t1.length : Int))) (
    ref2_GrowFault_l20 n t1 t8 0 (
      k0) (
      next (IntKind.i64.wrap (t8 + 1)))) (
    k1)
def ref2_GrowFault_l17 {ρ : Type} (n : Nat) (t1 : List (List Int)) (t8 : Int) (k0 : Option ρ) (k1 : Option ρ) : Option ρ :=
  iterM (fun (s : Int) nx => ref2_GrowFault_s17 n t1 s nx k0 k1) n t8
def ref2_GrowFault (n : Nat) (toArray0 : Int) (t1 : List (List Int)) : Option (Int) :=
  brO (decide (toArray0 < 1)) (
    some 1) (
    brO (decide (toArray0 > 9)) (
      some 1) (
      brO (decide ((t1.length : Int) > 200)) (
        some 3) (
        ref2_GrowFault_l6 n toArray0 t1 0 (
          some 1) (
          some 2) (
          ref2_GrowFault_l17 n t1 0 (
            some 6) (
            some 0)))))
def triple_Grow_1 (_n : Nat) (p0 : Int) (t1 : Int) : Option (Bool) :=
  brO (decide (p0 < 0)) (
    some true) (
    some (decide (p0 ≥ t1)))
def slices_IndexFunc_intint__triple_Grow_1_s2 {ρ : Type} (n : Nat) (s_0 : List Int) (f1 : Int) (t7 : Int) (t8 : Int) (next : Int → Option ρ) (k0 : Int → Option ρ) (k1 : Option ρ) : Option ρ :=
  brO (decide (t8 < t7)) (
    chk (0 ≤ t8) <|
    chk (t8 < (s_0.length : Int)) <|
    bnd (s_0[t8.toNat]?) fun b1' =>
    bnd (triple_Grow_1 n b1' f1) fun z2' =>
    brO z2' (
      k0 t8) (
      next (IntKind.i64.wrap (t8 + 1)))) (
    k1)
def slices_IndexFunc_intint__triple_Grow_1_l2 {ρ : Type} (n : Nat) (s_0 : List Int) (f1 : Int) (t7 : Int) (t8 : Int) (k0 : Int → Option ρ) (k1 : Option ρ) : Option ρ :=
  iterM (fun (s : Int) nx => slices_IndexFunc_intint__triple_Grow_1_s2 n s_0 f1 t7 s nx k0 k1) n t8
def slices_IndexFunc_intint__triple_Grow_1 (n : Nat) (s_0 : List Int) (f1 : Int) : Option (Int) :=
  slices_IndexFunc_intint__triple_Grow_1_l2 n s_0 f1 (s_0.length : Int) 0 (fun x3' =>
    some x3') (
    some (-1))
def slices_ContainsFunc_intint__triple_Grow_1 (n : Nat) (s_0 : List Int) (f1 : Int) : Option (Bool) :=
  bnd (slices_IndexFunc_intint__triple_Grow_1 n s_0 f1) fun z1' =>
  some (decide (z1' ≥ 0))
def triple_system_try_s2 {ρ : Type} (n : Nat) (R : List (List Int) → Int → List Int → Int → Int → Option (Bool × (List (List Int)) × Int × (List Int))) (t1 : List Int) (t2 : Int) (t3 : Int) (toArray0_0 : List (List Int)) (toArray0_1 : Int) (t9 : Int) (next : List (List Int) → Int → Int → Option ρ) (k0 : List (List Int) → Int → List Int → Option ρ) (k1 : List (List Int) → Int → Option ρ) : Option ρ :=
  brO (decide (t9 < toArray0_1)) (
    chk (0 ≤ t2) <|
    chk (t2 < 40) <|
    chk (0 ≤ t9) <|
    chk (t9 < 40) <|
    bnd (t1[((0 + (t2.toNat * 40)) + (t9.toNat * 1))]?) fun b1' =>
    brO (decide (b1' ≥ 0)) (
      next toArray0_0 toArray0_1 (IntKind.i64.wrap (t9 + 1))) (
      chk (0 ≤ t3) <|
      chk (t3 < 40) <|
      chk (0 ≤ t9) <|
      chk (t9 < 40) <|
      bnd (t1[((0 + (t3.toNat * 40)) + (t9.toNat * 1))]?) fun b2' =>
      brO (decide (b2' ≥ 0)) (
        next toArray0_0 toArray0_1 (IntKind.i64.wrap (t9 + 1))) (
        chk (0 = 0) <|
        chk (t1.length = 1600) <|
        chk (0 = 0) <|
        chk (t1.length = 1600) <|
        chk ((List.replicate 1600 (0 : Int)).length = 1600) <|
        chk (0 ≤ t2) <|
        chk (t2 < 40) <|
        chk (0 ≤ t3) <|
        chk (t3 < 40) <|
        chk (((0 + (t2.toNat * 40)) + (t3.toNat * 1)) < t1.length) <|
        chk (0 ≤ t2) <|
        chk (t2 < 40) <|
        chk (0 ≤ t9) <|
        chk (t9 < 40) <|
        chk (((0 + (t2.toNat * 40)) + (t9.toNat * 1)) < (t1.set ((0 + (t2.toNat * 40)) + (t3.toNat * 1)) t9).length) <|
        chk (0 ≤ t3) <|
        chk (t3 < 40) <|
        chk (0 ≤ t9) <|
        chk (t9 < 40) <|
        chk (((0 + (t3.toNat * 40)) + (t9.toNat * 1)) < ((t1.set ((0 + (t2.toNat * 40)) + (t3.toNat * 1)) t9).set ((0 + (t2.toNat * 40)) + (t9.toNat * 1)) t3).length) <|
        chk (0 ≤ t3) <|
        chk (t3 < 40) <|
        chk (0 ≤ t2) <|
        chk (t2 < 40) <|
        chk (((0 + (t3.toNat * 40)) + (t2.toNat * 1)) < (((t1.set ((0 + (t2.toNat * 40)) + (t3.toNat * 1)) t9).set ((0 + (t2.toNat * 40)) + (t9.toNat * 1)) t3).set ((0 + (t3.toNat * 40)) + (t9.toNat * 1)) t2).length) <|
        chk (0 ≤ t9) <|
        chk (t9 < 40) <|
        chk (0 ≤ t2) <|
        chk (t2 < 40) <|
        chk (((0 + (t9.toNat * 40)) + (t2.toNat * 1)) < ((((t1.set ((0 + (t2.toNat * 40)) + (t3.toNat * 1)) t9).set ((0 + (t2.toNat * 40)) + (t9.toNat * 1)) t3).set ((0 + (t3.toNat * 40)) + (t9.toNat * 1)) t2).set ((0 + (t3.toNat * 40)) + (t2.toNat * 1)) t9).length) <|
        chk (0 ≤ t9) <|
        chk (t9 < 40) <|
        chk (0 ≤ t3) <|
        chk (t3 < 40) <|
        chk (((0 + (t9.toNat * 40)) + (t3.toNat * 1)) < (((((t1.set ((0 + (t2.toNat * 40)) + (t3.toNat * 1)) t9).set ((0 + (t2.toNat * 40)) + (t9.toNat * 1)) t3).set ((0 + (t3.toNat * 40)) + (t9.toNat * 1)) t2).set ((0 + (t3.toNat * 40)) + (t2.toNat * 1)) t9).set ((0 + (t9.toNat * 40)) + (t2.toNat * 1)) t3).length) <|
        bnd (triple_lister_add n toArray0_0 toArray0_1 t2 t3 t9) fun z3' =>
        bnd (R z3'.1 z3'.2 ((((((t1.set ((0 + (t2.toNat * 40)) + (t3.toNat * 1)) t9).set ((0 + (t2.toNat * 40)) + (t9.toNat * 1)) t3).set ((0 + (t3.toNat * 40)) + (t9.toNat * 1)) t2).set ((0 + (t3.toNat * 40)) + (t2.toNat * 1)) t9).set ((0 + (t9.toNat * 40)) + (t2.toNat * 1)) t3).set ((0 + (t9.toNat * 40)) + (t3.toNat * 1)) t2) t2 t3) fun z4' =>
        brO z4'.1 (
          k0 z4'.2.1 z4'.2.2.1 z4'.2.2.2) (
          chk (0 = 0) <|
          chk (t1.length = 1600) <|
          chk (0 ≤ (toArray0_0.length : Int)) <|
          chk ((toArray0_0.length : Int) ≤ (z4'.2.1.length : Int)) <|
          chk (0 = 0) <|
          chk (t1.length = 1600) <|
          chk (z4'.2.2.2.length = 1600) <|
          next (z4'.2.1.take ((toArray0_0.length : Int).toNat)) z4'.2.2.1 (IntKind.i64.wrap (t9 + 1)))))) (
    k1 toArray0_0 toArray0_1)
def triple_system_try_l2 {ρ : Type} (n : Nat) (R : List (List Int) → Int → List Int → Int → Int → Option (Bool × (List (List Int)) × Int × (List Int))) (t1 : List Int) (t2 : Int) (t3 : Int) (toArray0_0 : List (List Int)) (toArray0_1 : Int) (t9 : Int) (k0 : List (List Int) → Int → List Int → Option ρ) (k1 : List (List Int) → Int → Option ρ) : Option ρ :=
  iterM (fun (s : (List (List Int)) × Int × Int) nx => triple_system_try_s2 n R t1 t2 t3 s.1 s.2.1 s.2.2 (fun a0 a1 a2 => nx (a0, a1, a2)) k0 k1) n (toArray0_0, toArray0_1, t9)
def triple_system_try (n : Nat) (R : List (List Int) → Int → List Int → Int → Int → Option (Bool × (List (List Int)) × Int × (List Int))) (toArray0_0 : List (List Int)) (toArray0_1 : Int) (t1 : List Int) (t2 : Int) (t3 : Int) : Option (Bool × (List (List Int)) × Int × (List Int)) :=
  triple_system_try_l2 n R t1 t2 t3 toArray0_0 toArray0_1 (IntKind.i64.wrap (t3 + 1)) (fun x5' x6' x7' =>
    some (true, x5', x6', x7')) (fun x8' x9' =>
    some (false, x8', x9', t1))
def triple_system_grow_s3 {ρ : Type} (n : Nat) (R : List (List Int) → Int → List Int → Int → Int → Option (Bool × (List (List Int)) × Int × (List Int))) (s_0_0 : List (List Int)) (s_0_1 : Int) (t1 : List Int) (p2 : Int) (q3 : Int) (next : Int → Option ρ) (k0 : Bool → List (List Int) → Int → List Int → Option ρ) (k1 : Option ρ) : Option ρ :=
  brO (decide (q3 < s_0_1)) (
    chk (0 ≤ p2) <|
    chk (p2 < 40) <|
    chk (0 ≤ q3) <|
    chk (q3 < 40) <|
    bnd (t1[((0 + (p2.toNat * 40)) + (q3.toNat * 1))]?) fun b1' =>
    brO (decide (b1' < 0)) (
      bnd (triple_system_try n R s_0_0 s_0_1 t1 p2 q3) fun z2' =>
      k0 z2'.1 z2'.2.1 z2'.2.2.1 z2'.2.2.2) (
      next (IntKind.i64.wrap (q3 + 1)))) (
    k1)
def triple_system_grow_l3 {ρ : Type} (n : Nat) (R : List (List Int) → Int → List Int → Int → Int → Option (Bool × (List (List Int)) × Int × (List Int))) (s_0_0 : List (List Int)) (s_0_1 : Int) (t1 : List Int) (p2 : Int) (q3 : Int) (k0 : Bool → List (List Int) → Int → List Int → Option ρ) (k1 : Option ρ) : Option ρ :=
  iterM (fun (s : Int) nx => triple_system_grow_s3 n R s_0_0 s_0_1 t1 p2 s nx k0 k1) n q3
def triple_system_grow_s1 {ρ : Type} (n : Nat) (R : List (List Int) → Int → List Int → Int → Int → Option (Bool × (List (List Int)) × Int × (List Int))) (s_0_0 : List (List Int)) (s_0_1 : Int) (t1 : List Int) (p2 : Int) (q3 : Int) (next : Int → Int → Option ρ) (k0 : Bool → List (List Int) → Int → List Int → Option ρ) (k1 : Option ρ) : Option ρ :=
  brO (decide (p2 < s_0_1)) (
    triple_system_grow_l3 n R s_0_0 s_0_1 t1 p2 q3 (fun x3' x4' x5' x6' =>
      k0 x3' x4' x5' x6') (
      next (IntKind.i64.wrap (p2 + 1)) (IntKind.i64.wrap (p2 + 2)))) (
    k1)
def triple_system_grow_l1 {ρ : Type} (n : Nat) (R : List (List Int) → Int → List Int → Int → Int → Option (Bool × (List (List Int)) × Int × (List Int))) (s_0_0 : List (List Int)) (s_0_1 : Int) (t1 : List Int) (p2 : Int) (q3 : Int) (k0 : Bool → List (List Int) → Int → List Int → Option ρ) (k1 : Option ρ) : Option ρ :=
  iterM (fun (s : Int × Int) nx => triple_system_grow_s1 n R s_0_0 s_0_1 t1 s.1 s.2 (fun a0 a1 => nx (a0, a1)) k0 k1) n (p2, q3)
def triple_system_grow_b (n : Nat) (R : List (List Int) → Int → List Int → Int → Int → Option (Bool × (List (List Int)) × Int × (List Int))) (s_0_0 : List (List Int)) (s_0_1 : Int) (t1 : List Int) (p2 : Int) (q3 : Int) : Option (Bool × (List (List Int)) × Int × (List Int)) :=
  triple_system_grow_l1 n R s_0_0 s_0_1 t1 p2 q3 (fun x7' x8' x9' x10' =>
    some (x7', x8', x9', x10')) (
    some (true, s_0_0, s_0_1, t1))
def triple_system_grow_r (n : Nat) : Nat → List (List Int) → Int → List Int → Int → Int → Option (Bool × (List (List Int)) × Int × (List Int))
  | 0 => fun _ _ _ _ _ => none
  | k + 1 => triple_system_grow_b n (triple_system_grow_r n k)
def triple_system_grow (n : Nat) : List (List Int) → Int → List Int → Int → Int → Option (Bool × (List (List Int)) × Int × (List Int)) := triple_system_grow_r n n
def triple_Grow_s7 {ρ : Type} (n : Nat) (t2 : Int) (_t4_0 : Int) (_t4_1 : List (List Int)) (t27 : List (List Int)) (t28 : Int) (t6_0 : List (List Int)) (t6_1 : Int) (t29 : Int) (next : List (List Int) → Int → Int → Option ρ) (k0 : List (List Int) → Option ρ) (k1 : List (List Int) → Option ρ) (k2 : List (List Int) → Int → Option ρ) : Option ρ :=
  brO (decide (t29 < t28)) (
    chk (0 ≤ t29) <|
    chk (t29 < (t27.length : Int)) <|
    bnd (t27[t29.toNat]?) fun r1' =>
    bnd (slices_ContainsFunc_intint__triple_Grow_1 n r1' t2) fun z2' =>
    brO z2' (
      k0 ([])) (
      brO ((r1'.length : Int) != 3) (
        k1 ([])) (
        chk (0 ≤ (0 : Int)) <|
        chk ((0 : Int) < (r1'.length : Int)) <|
        bnd (r1'[0]?) fun b3' =>
        chk (0 ≤ (1 : Int)) <|
        chk ((1 : Int) < (r1'.length : Int)) <|
        bnd (r1'[1]?) fun b4' =>
        brO (decide (b3' ≥ b4')) (
          k1 ([])) (
          chk (0 ≤ (1 : Int)) <|
          chk ((1 : Int) < (r1'.length : Int)) <|
          bnd (r1'[1]?) fun b5' =>
          chk (0 ≤ (2 : Int)) <|
          chk ((2 : Int) < (r1'.length : Int)) <|
          bnd (r1'[2]?) fun b6' =>
          brO (decide (b5' ≥ b6')) (
            k1 ([])) (
            chk (0 ≤ (0 : Int)) <|
            chk ((0 : Int) < (r1'.length : Int)) <|
            bnd (r1'[0]?) fun b7' =>
            chk (0 ≤ (1 : Int)) <|
            chk ((1 : Int) < (r1'.length : Int)) <|
            bnd (r1'[1]?) fun b8' =>
            chk (0 ≤ (2 : Int)) <|
            chk ((2 : Int) < (r1'.length : Int)) <|
            bnd (r1'[2]?) fun b9' =>
            bnd (triple_lister_add n t6_0 t6_1 b7' b8' b9') fun z10' =>
            next z10'.1 z10'.2 (IntKind.i64.wrap (t29 + 1))))))) (
    k2 t6_0 t6_1)
def triple_Grow_l7 {ρ : Type} (n : Nat) (t2 : Int) (t4_0 : Int) (t4_1 : List (List Int)) (t27 : List (List Int)) (t28 : Int) (t6_0 : List (List Int)) (t6_1 : Int) (t29 : Int) (k0 : List (List Int) → Option ρ) (k1 : List (List Int) → Option ρ) (k2 : List (List Int) → Int → Option ρ) : Option ρ :=
  iterM (fun (s : (List (List Int)) × Int × Int) nx => triple_Grow_s7 n t2 t4_0 t4_1 t27 t28 s.1 s.2.1 s.2.2 (fun a0 a1 a2 => nx (a0, a1, a2)) k0 k1 k2) n (t6_0, t6_1, t29)
def triple_Grow (n : Nat) (toArray0 : Int) (t1 : List (List Int)) : Option (Int × (List (List Int)) × Int) :=
  brO (decide (toArray0 < 1)) (
    some (0, [], 1)) (
    brO (decide (toArray0 > 9)) (
      some (0, [], 1)) (
      brO (decide ((t1.length : Int) > 200)) (
        some (0, [], 3)) (
        triple_Grow_l7 n toArray0 0 ([]) t1 (t1.length : Int) ([]) toArray0 0 (fun x11' =>
          some (0, x11', 1)) (fun x12' =>
          some (0, x12', 2)) (fun x13' x14' =>
          bnd (triple_third n x13') fun z15' =>
          chk (0 = 0) <|
          chk (z15'.1.length = 1600) <|
          chk ((List.replicate 1600 (0 : Int)).length = 1600) <|
          brO (!z15'.2) (
            some (0, [], 6)) (
            bnd (triple_system_grow n x13' x14' z15'.1 0 1) fun z16' =>
            brO (!z16'.1) (
              some (0, [], 4)) (
              bnd (triple_system_design n z16'.2.1 z16'.2.2.1) fun z17' =>
              some (z17'.1, z17'.2.1, 0)))))))
def ref1_Ints_s4 {ρ : Type} (_n : Nat) (a0 : List Int) (b1 : List Int) (i5 : Int) (next : Int → Option ρ) (k0 : Option ρ) (k1 : Option ρ) : Option ρ :=
  brO (decide (i5 < (a0.length : Int))) (
    chk (0 ≤ i5) <|
    chk (i5 < (a0.length : Int)) <|
    bnd (a0[i5.toNat]?) fun b1' =>
    chk (0 ≤ i5) <|
    chk (i5 < (b1.length : Int)) <|
    bnd (b1[i5.toNat]?) fun b2' =>
    brO (b1' != b2') (
      k0) (
      next (IntKind.i64.wrap (i5 + 1)))) (
    k1)
def ref1_Ints_l4 {ρ : Type} (n : Nat) (a0 : List Int) (b1 : List Int) (i5 : Int) (k0 : Option ρ) (k1 : Option ρ) : Option ρ :=
  iterM (fun (s : Int) nx => ref1_Ints_s4 n a0 b1 s nx k0 k1) n i5
def ref1_Ints (n : Nat) (a0 : List Int) (b1 : List Int) : Option (Bool) :=
  brO ((a0.length : Int) != (b1.length : Int)) (
    some false) (
    ref1_Ints_l4 n a0 b1 0 (
      some false) (
      some true))
def ref1_Lists_s4 {ρ : Type} (n : Nat) (a0 : List (List Int)) (b1 : List (List Int)) (i5 : Int) (next : Int → Option ρ) (k0 : Option ρ) (k1 : Option ρ) : Option ρ :=
  brO (decide (i5 < (a0.length : Int))) (
    chk (0 ≤ i5) <|
    chk (i5 < (a0.length : Int)) <|
    bnd (a0[i5.toNat]?) fun r1' =>
    chk (0 ≤ i5) <|
    chk (i5 < (b1.length : Int)) <|
    bnd (b1[i5.toNat]?) fun r2' =>
    bnd (ref1_Ints n r1' r2') fun z3' =>
    brO (!z3') (
      k0) (
      next (IntKind.i64.wrap (i5 + 1)))) (
    k1)
def ref1_Lists_l4 {ρ : Type} (n : Nat) (a0 : List (List Int)) (b1 : List (List Int)) (i5 : Int) (k0 : Option ρ) (k1 : Option ρ) : Option ρ :=
  iterM (fun (s : Int) nx => ref1_Lists_s4 n a0 b1 s nx k0 k1) n i5
def ref1_Lists (n : Nat) (a0 : List (List Int)) (b1 : List (List Int)) : Option (Bool) :=
  brO ((a0.length : Int) != (b1.length : Int)) (
    some false) (
    ref1_Lists_l4 n a0 b1 0 (
      some false) (
      some true))
def ref2_Designs (n : Nat) (a0_0 : Int) (a0_1 : List (List Int)) (b1_0 : Int) (b1_1 : List (List Int)) : Option (Bool) :=
  bnd (ref1_Lists n a0_1 b1_1) fun z1' =>
  brO (a0_0 == b1_0) (
    some z1') (
    some false)
def ref2_grown_s12 {ρ : Type} (n : Nat) (_R : Int → List (List Int) → Int → Int → Int → Option ((List (List Int)) × Bool)) (_toArray0 : Int) (t1 : List (List Int)) (_t2 : Int) (_t3 : Int) (_t4 : Int) (t12 : List Int) (t13 : Bool) (t14 : Int) (next : Bool → Int → Option ρ) (k0 : Bool → Option ρ) : Option ρ :=
  brO (decide (t14 < (t1.length : Int))) (
    brO t13 (
      chk (0 ≤ t14) <|
      chk (t14 < (t1.length : Int)) <|
      bnd (t1[t14.toNat]?) fun r1' =>
      bnd (ref2_Together n r1' t12) fun z2' =>
      next (decide (z2' < 2)) (IntKind.i64.wrap (t14 + 1))) (
      k0 t13)) (
    k0 t13)
def ref2_grown_l12 {ρ : Type} (n : Nat) (R : Int → List (List Int) → Int → Int → Int → Option ((List (List Int)) × Bool)) (toArray0 : Int) (t1 : List (List Int)) (t2 : Int) (t3 : Int) (t4 : Int) (t12 : List Int) (t13 : Bool) (t14 : Int) (k0 : Bool → Option ρ) : Option ρ :=
  iterM (fun (s : Bool × Int) nx => ref2_grown_s12 n R toArray0 t1 t2 t3 t4 t12 s.1 s.2 (fun a0 a1 => nx (a0, a1)) k0) n (t13, t14)
def ref2_grown_s7 {ρ : Type} (n : Nat) (R : Int → List (List Int) → Int → Int → Int → Option ((List (List Int)) × Bool)) (toArray0 : Int) (t1 : List (List Int)) (t2 : Int) (t3 : Int) (t4 : Int) (next : Int → Option ρ) (k0 : List (List Int) → Option ρ) (k1 : Option ρ) : Option ρ :=
  brO (decide (t4 < toArray0)) (
    ref2_grown_l12 n R toArray0 t1 t2 t3 t4 ([t2, t3, t4]) true 0 (fun x3' =>
      brO (!x3') (
        next (IntKind.i64.wrap (t4 + 1))) (
        chk (41 = 41) <|
        chk (([] ++ t1).length < 2 ^ 40) <|
        chk (41 = 41) <|
        chk ((([] ++ t1) ++ [[t2, t3, t4]]).length < 2 ^ 40) <|
        bnd (R toArray0 (([] ++ t1) ++ [[t2, t3, t4]]) t2 t3 (IntKind.i64.wrap (t4 + 1))) fun z4' =>
        brO z4'.2 (
          k0 z4'.1) (
          next (IntKind.i64.wrap (t4 + 1)))))) (
    k1)
def ref2_grown_l7 {ρ : Type} (n : Nat) (R : Int → List (List Int) → Int → Int → Int → Option ((List (List Int)) × Bool)) (toArray0 : Int) (t1 : List (List Int)) (t2 : Int) (t3 : Int) (t4 : Int) (k0 : List (List Int) → Option ρ) (k1 : Option ρ) : Option ρ :=
  iterM (fun (s : Int) nx => ref2_grown_s7 n R toArray0 t1 t2 t3 s nx k0 k1) n t4
def ref2_grown_s24 {ρ : Type} (n : Nat) (_R : Int → List (List Int) → Int → Int → Int → Option ((List (List Int)) × Bool)) (_toArray0 : Int) (t1 : List (List Int)) (t2 : Int) (t3 : Int) (t19 : Bool) (t20 : Int) (next : Bool → Int → Option ρ) (k0 : Bool → Option ρ) : Option ρ :=
  brO (decide (t20 < (t1.length : Int))) (
    chk (0 ≤ t20) <|
    chk (t20 < (t1.length : Int)) <|
    bnd (t1[t20.toNat]?) fun r6' =>
    bnd (ref2_Lies n r6' t2) fun z7' =>
    chk (0 ≤ t20) <|
    chk (t20 < (t1.length : Int)) <|
    bnd (t1[t20.toNat]?) fun r8' =>
    bnd (ref2_Lies n r8' t3) fun z9' =>
    brO t19 (
      next true (IntKind.i64.wrap (t20 + 1))) (
      brO z7' (
        next z9' (IntKind.i64.wrap (t20 + 1))) (
        next false (IntKind.i64.wrap (t20 + 1))))) (
    k0 t19)
def ref2_grown_l24 {ρ : Type} (n : Nat) (R : Int → List (List Int) → Int → Int → Int → Option ((List (List Int)) × Bool)) (toArray0 : Int) (t1 : List (List Int)) (t2 : Int) (t3 : Int) (t19 : Bool) (t20 : Int) (k0 : Bool → Option ρ) : Option ρ :=
  iterM (fun (s : Bool × Int) nx => ref2_grown_s24 n R toArray0 t1 t2 t3 s.1 s.2 (fun a0 a1 => nx (a0, a1)) k0) n (t19, t20)
def ref2_grown_s5 {ρ : Type} (n : Nat) (R : Int → List (List Int) → Int → Int → Int → Option ((List (List Int)) × Bool)) (toArray0 : Int) (t1 : List (List Int)) (t2 : Int) (t3 : Int) (t4 : Int) (next : Int → Int → Option ρ) (k0 : List (List Int) → Option ρ) (k1 : List (List Int) → Option ρ) (k2 : Option ρ) : Option ρ :=
  brO (decide (t3 < toArray0)) (
    ref2_grown_l7 n R toArray0 t1 t2 t3 t4 (fun x5' =>
      k0 x5') (
      ref2_grown_l24 n R toArray0 t1 t2 t3 false 0 (fun x10' =>
        brO (!x10') (
          k1 ([])) (
          next (IntKind.i64.wrap (t3 + 1)) (IntKind.i64.wrap (t3 + 2)))))) (
    k2)
def ref2_grown_l5 {ρ : Type} (n : Nat) (R : Int → List (List Int) → Int → Int → Int → Option ((List (List Int)) × Bool)) (toArray0 : Int) (t1 : List (List Int)) (t2 : Int) (t3 : Int) (t4 : Int) (k0 : List (List Int) → Option ρ) (k1 : List (List Int) → Option ρ) (k2 : Option ρ) : Option ρ :=
  iterM (fun (s : Int × Int) nx => ref2_grown_s5 n R toArray0 t1 t2 s.1 s.2 (fun a0 a1 => nx (a0, a1)) k0 k1 k2) n (t3, t4)
def ref2_grown_s3 {ρ : Type} (n : Nat) (R : Int → List (List Int) → Int → Int → Int → Option ((List (List Int)) × Bool)) (toArray0 : Int) (t1 : List (List Int)) (t2 : Int) (t3 : Int) (t4 : Int) (next : Int → Int → Int → Option ρ) (k0 : List (List Int) → Option ρ) (k1 : List (List Int) → Option ρ) (k2 : Option ρ) : Option ρ :=
  brO (decide (t2 < toArray0)) (
    ref2_grown_l5 n R toArray0 t1 t2 t3 t4 (fun x11' =>
      k0 x11') (fun x12' =>
      k1 x12') (
      next (IntKind.i64.wrap (t2 + 1)) (IntKind.i64.wrap (t2 + 2)) (IntKind.i64.wrap (t2 + 3)))) (
    k2)
def ref2_grown_l3 {ρ : Type} (n : Nat) (R : Int → List (List Int) → Int → Int → Int → Option ((List (List Int)) × Bool)) (toArray0 : Int) (t1 : List (List Int)) (t2 : Int) (t3 : Int) (t4 : Int) (k0 : List (List Int) → Option ρ) (k1 : List (List Int) → Option ρ) (k2 : Option ρ) : Option ρ :=
  iterM (fun (s : Int × Int × Int) nx => ref2_grown_s3 n R toArray0 t1 s.1 s.2.1 s.2.2 (fun a0 a1 a2 => nx (a0, a1, a2)) k0 k1 k2) n (t2, t3, t4)
def ref2_grown_b (n : Nat) (R : Int → List (List Int) → Int → Int → Int → Option ((List (List Int)) × Bool)) (toArray0 : Int) (t1 : List (List Int)) (t2 : Int) (t3 : Int) (t4 : Int) : Option ((List (List Int)) × Bool) :=
  brO ((IntKind.i64.wrap ((t1.length : Int) * 6)) == (IntKind.i64.wrap (toArray0 * (IntKind.i64.wrap (toArray0 - 1))))) (
    some (t1, true)) (
    ref2_grown_l3 n R toArray0 t1 t2 t3 t4 (fun x13' =>
      some (x13', true)) (fun x14' =>
      some (x14', false)) (
      some ([], false)))
def ref2_grown_r (n : Nat) : Nat → Int → List (List Int) → Int → Int → Int → Option ((List (List Int)) × Bool)
  | 0 => fun _ _ _ _ _ => none
  | k + 1 => ref2_grown_b n (ref2_grown_r n k)
def ref2_grown (n : Nat) : Int → List (List Int) → Int → Int → Int → Option ((List (List Int)) × Bool) := ref2_grown_r n n
def ref2_Sorted_s7 {ρ : Type} (_n : Nat) (_l0 : List Int) (_i4 : Int) (out3 : List Int) (k_5 : Int) (next : List Int → Int → Option ρ) (k0 : List Int → Option ρ) : Option ρ :=
  brO (decide (k_5 > 0)) (
    chk (0 ≤ (IntKind.i64.wrap (k_5 - 1))) <|
    chk ((IntKind.i64.wrap (k_5 - 1)) < (out3.length : Int)) <|
    bnd (out3[(IntKind.i64.wrap (k_5 - 1)).toNat]?) fun b2' =>
    chk (0 ≤ k_5) <|
    chk (k_5 < (out3.length : Int)) <|
    bnd (out3[k_5.toNat]?) fun b3' =>
    brO (decide (b2' > b3')) (
      chk (0 ≤ k_5) <|
      chk (k_5 < (out3.length : Int)) <|
      bnd (out3[k_5.toNat]?) fun b4' =>
      chk (0 ≤ (IntKind.i64.wrap (k_5 - 1))) <|
      chk ((IntKind.i64.wrap (k_5 - 1)) < (out3.length : Int)) <|
      bnd (out3[(IntKind.i64.wrap (k_5 - 1)).toNat]?) fun b5' =>
      chk (0 ≤ (IntKind.i64.wrap (k_5 - 1))) <|
      chk ((IntKind.i64.wrap (k_5 - 1)) < (out3.length : Int)) <|
      chk ((IntKind.i64.wrap (k_5 - 1)).toNat < out3.length) <|
      chk (0 ≤ k_5) <|
      chk (k_5 < ((out3.set ((IntKind.i64.wrap (k_5 - 1)).toNat) b4').length : Int)) <|
      chk (k_5.toNat < (out3.set ((IntKind.i64.wrap (k_5 - 1)).toNat) b4').length) <|
      next ((out3.set ((IntKind.i64.wrap (k_5 - 1)).toNat) b4').set k_5.toNat b5') (IntKind.i64.wrap (k_5 - 1))) (
      k0 out3)) (
    k0 out3)
def ref2_Sorted_l7 {ρ : Type} (n : Nat) (l0 : List Int) (i4 : Int) (out3 : List Int) (k_5 : Int) (k0 : List Int → Option ρ) : Option ρ :=
  iterM (fun (s : (List Int) × Int) nx => ref2_Sorted_s7 n l0 i4 s.1 s.2 (fun a0 a1 => nx (a0, a1)) k0) n (out3, k_5)
def ref2_Sorted_s3 {ρ : Type} (n : Nat) (l0 : List Int) (out3 : List Int) (i4 : Int) (next : List Int → Int → Option ρ) (k0 : List Int → Option ρ) : Option ρ :=
  brO (decide (i4 < (l0.length : Int))) (
    chk (0 ≤ i4) <|
    chk (i4 < (l0.length : Int)) <|
    bnd (l0[i4.toNat]?) fun b1' =>
    chk (3 = 3) <|
    chk ((out3 ++ [b1']).length < 2 ^ 40) <|
    ref2_Sorted_l7 n l0 i4 (out3 ++ [b1']) (out3.length : Int) (fun x6' =>
      next x6' (IntKind.i64.wrap (i4 + 1)))) (
    k0 out3)
def ref2_Sorted_l3 {ρ : Type} (n : Nat) (l0 : List Int) (out3 : List Int) (i4 : Int) (k0 : List Int → Option ρ) : Option ρ :=
  iterM (fun (s : (List Int) × Int) nx => ref2_Sorted_s3 n l0 s.1 s.2 (fun a0 a1 => nx (a0, a1)) k0) n (out3, i4)
def ref2_Sorted (n : Nat) (l0 : List Int) : Option (List Int) :=
  ref2_Sorted_l3 n l0 ([]) 0 (fun x7' =>
    some x7')
def ref2_Ahead_s2 {ρ : Type} (_n : Nat) (a0 : List Int) (b1 : List Int) (i5 : Int) (next : Int → Option ρ) (k0 : Bool → Option ρ) (k1 : Option ρ) : Option ρ :=
  brO (decide (i5 < (a0.length : Int))) (
    brO (decide (i5 < (b1.length : Int))) (
      chk (0 ≤ i5) <|
      chk (i5 < (a0.length : Int)) <|
      bnd (a0[i5.toNat]?) fun b1' =>
      chk (0 ≤ i5) <|
      chk (i5 < (b1.length : Int)) <|
      bnd (b1[i5.toNat]?) fun b2' =>
      brO (b1' != b2') (
        chk (0 ≤ i5) <|
        chk (i5 < (a0.length : Int)) <|
        bnd (a0[i5.toNat]?) fun b3' =>
        chk (0 ≤ i5) <|
        chk (i5 < (b1.length : Int)) <|
        bnd (b1[i5.toNat]?) fun b4' =>
        k0 (decide (b3' < b4'))) (
        next (IntKind.i64.wrap (i5 + 1)))) (
      k1)) (
    k1)
def ref2_Ahead_l2 {ρ : Type} (n : Nat) (a0 : List Int) (b1 : List Int) (i5 : Int) (k0 : Bool → Option ρ) (k1 : Option ρ) : Option ρ :=
  iterM (fun (s : Int) nx => ref2_Ahead_s2 n a0 b1 s nx k0 k1) n i5
def ref2_Ahead (n : Nat) (a0 : List Int) (b1 : List Int) : Option (Bool) :=
  ref2_Ahead_l2 n a0 b1 0 (fun x5' =>
    some x5') (
    some (decide ((a0.length : Int) < (b1.length : Int))))
def ref2_InOrder_s8 {ρ : Type} (n : Nat) (_l0 : List (List Int)) (_i4 : Int) (out3 : List (List Int)) (k_6 : Int) (next : List (List Int) → Int → Option ρ) (k0 : List (List Int) → Option ρ) : Option ρ :=
  brO (decide (k_6 > 0)) (
    chk (0 ≤ k_6) <|
    chk (k_6 < (out3.length : Int)) <|
    bnd (out3[k_6.toNat]?) fun r3' =>
    chk (0 ≤ (IntKind.i64.wrap (k_6 - 1))) <|
    chk ((IntKind.i64.wrap (k_6 - 1)) < (out3.length : Int)) <|
    bnd (out3[(IntKind.i64.wrap (k_6 - 1)).toNat]?) fun r4' =>
    bnd (ref2_Ahead n r3' r4') fun z5' =>
    brO (!z5') (
      k0 out3) (
      chk (0 ≤ k_6) <|
      chk (k_6 < (out3.length : Int)) <|
      bnd (out3[k_6.toNat]?) fun r6' =>
      chk (0 ≤ (IntKind.i64.wrap (k_6 - 1))) <|
      chk ((IntKind.i64.wrap (k_6 - 1)) < (out3.length : Int)) <|
      bnd (out3[(IntKind.i64.wrap (k_6 - 1)).toNat]?) fun r7' =>
      chk (0 ≤ (IntKind.i64.wrap (k_6 - 1))) <|
      chk ((IntKind.i64.wrap (k_6 - 1)) < (out3.length : Int)) <|
      chk ((IntKind.i64.wrap (k_6 - 1)).toNat < out3.length) <|
      chk (0 ≤ k_6) <|
      chk (k_6 < ((out3.set ((IntKind.i64.wrap (k_6 - 1)).toNat) r6').length : Int)) <|
      chk (k_6.toNat < (out3.set ((IntKind.i64.wrap (k_6 - 1)).toNat) r6').length) <|
      next ((out3.set ((IntKind.i64.wrap (k_6 - 1)).toNat) r6').set k_6.toNat r7') (IntKind.i64.wrap (k_6 - 1)))) (
    k0 out3)
def ref2_InOrder_l8 {ρ : Type} (n : Nat) (l0 : List (List Int)) (i4 : Int) (out3 : List (List Int)) (k_6 : Int) (k0 : List (List Int) → Option ρ) : Option ρ :=
  iterM (fun (s : (List (List Int)) × Int) nx => ref2_InOrder_s8 n l0 i4 s.1 s.2 (fun a0 a1 => nx (a0, a1)) k0) n (out3, k_6)
def ref2_InOrder_s3 {ρ : Type} (n : Nat) (l0 : List (List Int)) (out3 : List (List Int)) (i4 : Int) (next : List (List Int) → Int → Option ρ) (k0 : List (List Int) → Option ρ) : Option ρ :=
  brO (decide (i4 < (l0.length : Int))) (
    chk (0 ≤ i4) <|
    chk (i4 < (l0.length : Int)) <|
    bnd (l0[i4.toNat]?) fun r1' =>
    bnd (ref2_Sorted n r1') fun z2' =>
    chk (41 = 41) <|
    chk ((out3 ++ [z2']).length < 2 ^ 40) <|
    ref2_InOrder_l8 n l0 i4 (out3 ++ [z2']) (out3.length : Int) (fun x8' =>
      next x8' (IntKind.i64.wrap (i4 + 1)))) (
    k0 out3)
def ref2_InOrder_l3 {ρ : Type} (n : Nat) (l0 : List (List Int)) (out3 : List (List Int)) (i4 : Int) (k0 : List (List Int) → Option ρ) : Option ρ :=
  iterM (fun (s : (List (List Int)) × Int) nx => ref2_InOrder_s3 n l0 s.1 s.2 (fun a0 a1 => nx (a0, a1)) k0) n (out3, i4)
def ref2_InOrder (n : Nat) (l0 : List (List Int)) : Option (List (List Int)) :=
  ref2_InOrder_l3 n l0 ([]) 0 (fun x9' =>
    some x9')
def ref2_GrowOf (n : Nat) (v0 : Int) (blocks1 : List (List Int)) : Option (Int × (List (List Int)) × Int) :=
  bnd (ref2_grown n v0 blocks1 0 1 2) fun z1' =>
  brO (!z1'.2) (
    some (0, [], 4)) (
    bnd (ref2_InOrder n z1'.1) fun z2' =>
    some (v0, z2', 0))
def law2_TripleGrows (n : Nat) (v0 : Int) (blocks1 : List (List Int)) : Option (Bool) :=
  bnd (ref2_GrowFault n v0 blocks1) fun z1' =>
  bnd (triple_Grow n v0 blocks1) fun z2' =>
  brO (z1' != 0) (
    bnd (ref2_Designs n z2'.1 z2'.2.1 0 ([])) fun z3' =>
    brO (z2'.2.2 == z1') (
      some z3') (
      some false)) (
    bnd (ref2_GrowOf n v0 blocks1) fun z4' =>
    bnd (ref2_Designs n z2'.1 z2'.2.1 z4'.1 z4'.2.1) fun z5' =>
    brO (z2'.2.2 == z4'.2.2) (
      some z5') (
      some false))
def ref2_DesignFault_s10 {ρ : Type} (_n : Nat) (t1_0 : Int) (_t1_1 : List (List Int)) (_t3 : Int) (t4 : List Int) (t5 : Int) (next : Int → Option ρ) (k0 : Option ρ) (k1 : Option ρ) : Option ρ :=
  brO (decide (t5 < (t4.length : Int))) (
    chk (0 ≤ t5) <|
    chk (t5 < (t4.length : Int)) <|
    bnd (t4[t5.toNat]?) fun b2' =>
    brO (decide (b2' < 0)) (
      k0) (
      chk (0 ≤ t5) <|
      chk (t5 < (t4.length : Int)) <|
      bnd (t4[t5.toNat]?) fun b3' =>
      brO (decide (b3' ≥ t1_0)) (
        k0) (
        next (IntKind.i64.wrap (t5 + 1))))) (
    k1)
def ref2_DesignFault_l10 {ρ : Type} (n : Nat) (t1_0 : Int) (t1_1 : List (List Int)) (t3 : Int) (t4 : List Int) (t5 : Int) (k0 : Option ρ) (k1 : Option ρ) : Option ρ :=
  iterM (fun (s : Int) nx => ref2_DesignFault_s10 n t1_0 t1_1 t3 t4 s nx k0 k1) n t5
def ref2_DesignFault_s15 {ρ : Type} (_n : Nat) (_t1_0 : Int) (_t1_1 : List (List Int)) (_t3 : Int) (t4 : List Int) (t6 : Int) (next : Int → Option ρ) (k0 : Option ρ) (k1 : Option ρ) : Option ρ :=
  brO (decide (t6 < (t4.length : Int))) (
    chk (0 ≤ t6) <|
    chk (t6 < (t4.length : Int)) <|
    bnd (t4[t6.toNat]?) fun b4' =>
    chk (0 ≤ (IntKind.i64.wrap (t6 - 1))) <|
    chk ((IntKind.i64.wrap (t6 - 1)) < (t4.length : Int)) <|
    bnd (t4[(IntKind.i64.wrap (t6 - 1)).toNat]?) fun b5' =>
    brO (decide (b4' ≤ b5')) (
      k0) (
      next (IntKind.i64.wrap (t6 + 1)))) (
    k1)
def ref2_DesignFault_l15 {ρ : Type} (n : Nat) (t1_0 : Int) (t1_1 : List (List Int)) (t3 : Int) (t4 : List Int) (t6 : Int) (k0 : Option ρ) (k1 : Option ρ) : Option ρ :=
  iterM (fun (s : Int) nx => ref2_DesignFault_s15 n t1_0 t1_1 t3 t4 s nx k0 k1) n t6
def ref2_DesignFault_s6 {ρ : Type} (n : Nat) (t1_0 : Int) (t1_1 : List (List Int)) (t3 : Int) (next : Int → Option ρ) (k0 : Option ρ) (k1 : Option ρ) (k2 : Option ρ) : Option ρ :=
  brO (decide (t3 < (t1_1.length : Int))) (
    chk (0 ≤ t3) <|
    chk (t3 < (t1_1.length : Int)) <|
    bnd (t1_1[t3.toNat]?) fun r1' =>
    ref2_DesignFault_l10 n t1_0 t1_1 t3 r1' 0 (
      k0) (
      ref2_DesignFault_l15 n t1_0 t1_1 t3 r1' 1 (
        k1) (
        next (IntKind.i64.wrap (t3 + 1))))) (
    k2)
def ref2_DesignFault_l6 {ρ : Type} (n : Nat) (t1_0 : Int) (t1_1 : List (List Int)) (t3 : Int) (k0 : Option ρ) (k1 : Option ρ) (k2 : Option ρ) : Option ρ :=
  iterM (fun (s : Int) nx => ref2_DesignFault_s6 n t1_0 t1_1 s nx k0 k1 k2) n t3
def ref2_DesignFault (n : Nat) (toArray0_0 : Int) (toArray0_1 : List (List Int)) : Option (Int) :=
  brO (decide (toArray0_0 < 1)) (
    some 1) (
    brO (decide (toArray0_0 > 40)) (
      some 1) (
      brO (decide ((toArray0_1.length : Int) > 200)) (
        some 3) (
        ref2_DesignFault_l6 n toArray0_0 toArray0_1 0 (
          some 1) (
          some 2) (
          some 0))))
def ref2_TripleFault_s5 {ρ : Type} (_n : Nat) (_t1_0 : Int) (t1_1 : List (List Int)) (t4 : Int) (next : Int → Option ρ) (k0 : Option ρ) (k1 : Option ρ) : Option ρ :=
  brO (decide (t4 < (t1_1.length : Int))) (
    chk (0 ≤ t4) <|
    chk (t4 < (t1_1.length : Int)) <|
    bnd (t1_1[t4.toNat]?) fun r2' =>
    brO ((r2'.length : Int) != 3) (
      k0) (
      next (IntKind.i64.wrap (t4 + 1)))) (
    k1)
def ref2_TripleFault_l5 {ρ : Type} (n : Nat) (t1_0 : Int) (t1_1 : List (List Int)) (t4 : Int) (k0 : Option ρ) (k1 : Option ρ) : Option ρ :=
  iterM (fun (s : Int) nx => ref2_TripleFault_s5 n t1_0 t1_1 s nx k0 k1) n t4
def ref2_TripleFault_s17 {ρ : Type} (n : Nat) (_t1_0 : Int) (t1_1 : List (List Int)) (t5 : Int) (t6 : Int) (t7 : Int) (t8 : Int) (next : Int → Int → Option ρ) (k0 : Int → Option ρ) : Option ρ :=
  brO (decide (t8 < (t1_1.length : Int))) (
    chk (0 ≤ t8) <|
    chk (t8 < (t1_1.length : Int)) <|
    bnd (t1_1[t8.toNat]?) fun r3' =>
    bnd (ref2_Lies n r3' t5) fun z4' =>
    chk (0 ≤ t8) <|
    chk (t8 < (t1_1.length : Int)) <|
    bnd (t1_1[t8.toNat]?) fun r5' =>
    bnd (ref2_Lies n r5' t6) fun z6' =>
    brO z4' (
      brO z6' (
        next (IntKind.i64.wrap (t7 + 1)) (IntKind.i64.wrap (t8 + 1))) (
        next t7 (IntKind.i64.wrap (t8 + 1)))) (
      next t7 (IntKind.i64.wrap (t8 + 1)))) (
    k0 t7)
def ref2_TripleFault_l17 {ρ : Type} (n : Nat) (t1_0 : Int) (t1_1 : List (List Int)) (t5 : Int) (t6 : Int) (t7 : Int) (t8 : Int) (k0 : Int → Option ρ) : Option ρ :=
  iterM (fun (s : Int × Int) nx => ref2_TripleFault_s17 n t1_0 t1_1 t5 t6 s.1 s.2 (fun a0 a1 => nx (a0, a1)) k0) n (t7, t8)
def ref2_TripleFault_s13 {ρ : Type} (n : Nat) (t1_0 : Int) (t1_1 : List (List Int)) (t5 : Int) (t6 : Int) (next : Int → Option ρ) (k0 : Option ρ) (k1 : Option ρ) : Option ρ :=
  brO (decide (t6 < t5)) (
    ref2_TripleFault_l17 n t1_0 t1_1 t5 t6 0 0 (fun x7' =>
      brO (x7' != 1) (
        k0) (
        next (IntKind.i64.wrap (t6 + 1))))) (
    k1)
def ref2_TripleFault_l13 {ρ : Type} (n : Nat) (t1_0 : Int) (t1_1 : List (List Int)) (t5 : Int) (t6 : Int) (k0 : Option ρ) (k1 : Option ρ) : Option ρ :=
  iterM (fun (s : Int) nx => ref2_TripleFault_s13 n t1_0 t1_1 t5 s nx k0 k1) n t6
def ref2_TripleFault_s10 {ρ : Type} (n : Nat) (t1_0 : Int) (t1_1 : List (List Int)) (t5 : Int) (next : Int → Option ρ) (k0 : Option ρ) (k1 : Option ρ) : Option ρ :=
  brO (decide (t5 < t1_0)) (
    ref2_TripleFault_l13 n t1_0 t1_1 t5 0 (
      k0) (
      next (IntKind.i64.wrap (t5 + 1)))) (
    k1)
def ref2_TripleFault_l10 {ρ : Type} (n : Nat) (t1_0 : Int) (t1_1 : List (List Int)) (t5 : Int) (k0 : Option ρ) (k1 : Option ρ) : Option ρ :=
  iterM (fun (s : Int) nx => ref2_TripleFault_s10 n t1_0 t1_1 s nx k0 k1) n t5
def ref2_TripleFault (n : Nat) (toArray0_0 : Int) (toArray0_1 : List (List Int)) : Option (Int) :=
  bnd (ref2_DesignFault n toArray0_0 toArray0_1) fun z1' =>
  brO (z1' != 0) (
    some z1') (
    ref2_TripleFault_l5 n toArray0_0 toArray0_1 0 (
      some 4) (
      ref2_TripleFault_l10 n toArray0_0 toArray0_1 0 (
        some 4) (
        some 0)))
def slices_Index_intint_s2 {ρ : Type} (_n : Nat) (s_0 : List Int) (v1 : Int) (t7 : Int) (t8 : Int) (next : Int → Option ρ) (k0 : Int → Option ρ) (k1 : Option ρ) : Option ρ :=
  brO (decide (t8 < t7)) (
    chk (0 ≤ t8) <|
    chk (t8 < (s_0.length : Int)) <|
    bnd (s_0[t8.toNat]?) fun b1' =>
    brO (v1 == b1') (
      k0 t8) (
      next (IntKind.i64.wrap (t8 + 1)))) (
    k1)
def slices_Index_intint_l2 {ρ : Type} (n : Nat) (s_0 : List Int) (v1 : Int) (t7 : Int) (t8 : Int) (k0 : Int → Option ρ) (k1 : Option ρ) : Option ρ :=
  iterM (fun (s : Int) nx => slices_Index_intint_s2 n s_0 v1 t7 s nx k0 k1) n t8
def slices_Index_intint (n : Nat) (s_0 : List Int) (v1 : Int) : Option (Int) :=
  slices_Index_intint_l2 n s_0 v1 (s_0.length : Int) 0 (fun x2' =>
    some x2') (
    some (-1))
def slices_Contains_intint (n : Nat) (s_0 : List Int) (v1 : Int) : Option (Bool) :=
  bnd (slices_Index_intint n s_0 v1) fun z1' =>
  some (decide (z1' ≥ 0))
def triple_others (n : Nat) (b0 : List Int) (p1 : Int) : Option (Int × Int) :=
  bnd (slices_Index_intint n b0 p1) fun z1' =>
  chk (0 ≤ ((IntKind.i64.wrap (z1' + 1)).tmod 3)) <|
  chk (((IntKind.i64.wrap (z1' + 1)).tmod 3) < (b0.length : Int)) <|
  bnd (b0[((IntKind.i64.wrap (z1' + 1)).tmod 3).toNat]?) fun b2' =>
  chk (0 ≤ ((IntKind.i64.wrap (z1' + 2)).tmod 3)) <|
  chk (((IntKind.i64.wrap (z1' + 2)).tmod 3) < (b0.length : Int)) <|
  bnd (b0[((IntKind.i64.wrap (z1' + 2)).tmod 3).toNat]?) fun b3' =>
  some (b2', b3')
def triple_Passes_s10 {ρ : Type} (n : Nat) (_t1_0 : Int) (_t1_1 : List (List Int)) (_t4 : List Int) (_t6 : Int) (t7 : Int) (_t28 : Int) (_t29 : Int) (t33 : List (List Int)) (t34 : Int) (t8 : List (List Int)) (t35 : Int) (next : List (List Int) → Int → Option ρ) (k0 : List (List Int) → Option ρ) : Option ρ :=
  brO (decide (t35 < t34)) (
    chk (0 ≤ t35) <|
    chk (t35 < (t33.length : Int)) <|
    bnd (t33[t35.toNat]?) fun r2' =>
    bnd (slices_Contains_intint n r2' t7) fun z3' =>
    brO z3' (
      chk (41 = 41) <|
      chk ((t8 ++ [r2']).length < 2 ^ 40) <|
      next (t8 ++ [r2']) (IntKind.i64.wrap (t35 + 1))) (
      next t8 (IntKind.i64.wrap (t35 + 1)))) (
    k0 t8)
def triple_Passes_l10 {ρ : Type} (n : Nat) (t1_0 : Int) (t1_1 : List (List Int)) (t4 : List Int) (t6 : Int) (t7 : Int) (t28 : Int) (t29 : Int) (t33 : List (List Int)) (t34 : Int) (t8 : List (List Int)) (t35 : Int) (k0 : List (List Int) → Option ρ) : Option ρ :=
  iterM (fun (s : (List (List Int)) × Int) nx => triple_Passes_s10 n t1_0 t1_1 t4 t6 t7 t28 t29 t33 t34 s.1 s.2 (fun a0 a1 => nx (a0, a1)) k0) n (t8, t35)
def triple_Passes_s20 {ρ : Type} (n : Nat) (_t1_0 : Int) (_t1_1 : List (List Int)) (t4 : List Int) (t7 : Int) (_t8 : List (List Int)) (t13 : Int) (t14 : Int) (_t28 : Int) (_t29 : Int) (_t47 : List (List Int)) (_t48 : Int) (_t49 : Int) (t62 : List (List Int)) (t63 : Int) (t6 : Int) (t64 : Int) (next : Int → Int → Option ρ) (k0 : Int → Option ρ) : Option ρ :=
  brO (decide (t64 < t63)) (
    chk (0 ≤ t64) <|
    chk (t64 < (t62.length : Int)) <|
    bnd (t62[t64.toNat]?) fun r7' =>
    bnd (triple_others n r7' t7) fun z8' =>
    chk (0 ≤ t13) <|
    chk (t13 < 40) <|
    chk (0 ≤ z8'.1) <|
    chk (z8'.1 < 40) <|
    bnd (t4[((0 + (t13.toNat * 40)) + (z8'.1.toNat * 1))]?) fun b9' =>
    chk (0 ≤ t14) <|
    chk (t14 < 40) <|
    chk (0 ≤ z8'.2) <|
    chk (z8'.2 < 40) <|
    bnd (t4[((0 + (t14.toNat * 40)) + (z8'.2.toNat * 1))]?) fun b10' =>
    brO (b9' == b10') (
      chk (0 ≤ t13) <|
      chk (t13 < 40) <|
      chk (0 ≤ z8'.2) <|
      chk (z8'.2 < 40) <|
      bnd (t4[((0 + (t13.toNat * 40)) + (z8'.2.toNat * 1))]?) fun b11' =>
      chk (0 ≤ t14) <|
      chk (t14 < 40) <|
      chk (0 ≤ z8'.1) <|
      chk (z8'.1 < 40) <|
      bnd (t4[((0 + (t14.toNat * 40)) + (z8'.1.toNat * 1))]?) fun b12' =>
      brO (b11' == b12') (
        next (IntKind.i64.wrap ((IntKind.i64.wrap (t6 + 1)) + 1)) (IntKind.i64.wrap (t64 + 1))) (
        next (IntKind.i64.wrap (t6 + 1)) (IntKind.i64.wrap (t64 + 1)))) (
      chk (0 ≤ t13) <|
      chk (t13 < 40) <|
      chk (0 ≤ z8'.2) <|
      chk (z8'.2 < 40) <|
      bnd (t4[((0 + (t13.toNat * 40)) + (z8'.2.toNat * 1))]?) fun b13' =>
      chk (0 ≤ t14) <|
      chk (t14 < 40) <|
      chk (0 ≤ z8'.1) <|
      chk (z8'.1 < 40) <|
      bnd (t4[((0 + (t14.toNat * 40)) + (z8'.1.toNat * 1))]?) fun b14' =>
      brO (b13' == b14') (
        next (IntKind.i64.wrap (t6 + 1)) (IntKind.i64.wrap (t64 + 1))) (
        next t6 (IntKind.i64.wrap (t64 + 1))))) (
    k0 t6)
def triple_Passes_l20 {ρ : Type} (n : Nat) (t1_0 : Int) (t1_1 : List (List Int)) (t4 : List Int) (t7 : Int) (t8 : List (List Int)) (t13 : Int) (t14 : Int) (t28 : Int) (t29 : Int) (t47 : List (List Int)) (t48 : Int) (t49 : Int) (t62 : List (List Int)) (t63 : Int) (t6 : Int) (t64 : Int) (k0 : Int → Option ρ) : Option ρ :=
  iterM (fun (s : Int × Int) nx => triple_Passes_s20 n t1_0 t1_1 t4 t7 t8 t13 t14 t28 t29 t47 t48 t49 t62 t63 s.1 s.2 (fun a0 a1 => nx (a0, a1)) k0) n (t6, t64)
def triple_Passes_s16 {ρ : Type} (n : Nat) (t1_0 : Int) (t1_1 : List (List Int)) (t4 : List Int) (t7 : Int) (t8 : List (List Int)) (t28 : Int) (t29 : Int) (t47 : List (List Int)) (t48 : Int) (t6 : Int) (t49 : Int) (next : Int → Int → Option ρ) (k0 : Int → Option ρ) : Option ρ :=
  brO (decide (t49 < t48)) (
    chk (0 ≤ t49) <|
    chk (t49 < (t47.length : Int)) <|
    bnd (t47[t49.toNat]?) fun r5' =>
    bnd (triple_others n r5' t7) fun z6' =>
    chk (0 ≤ (0 : Int)) <|
    chk ((0 : Int) ≤ t49) <|
    chk (t49 ≤ (t8.length : Int)) <|
    triple_Passes_l20 n t1_0 t1_1 t4 t7 t8 z6'.1 z6'.2 t28 t29 t47 t48 t49 (t8.take t49.toNat) ((t8.take t49.toNat).length : Int) t6 0 (fun x15' =>
      next x15' (IntKind.i64.wrap (t49 + 1)))) (
    k0 t6)
def triple_Passes_l16 {ρ : Type} (n : Nat) (t1_0 : Int) (t1_1 : List (List Int)) (t4 : List Int) (t7 : Int) (t8 : List (List Int)) (t28 : Int) (t29 : Int) (t47 : List (List Int)) (t48 : Int) (t6 : Int) (t49 : Int) (k0 : Int → Option ρ) : Option ρ :=
  iterM (fun (s : Int × Int) nx => triple_Passes_s16 n t1_0 t1_1 t4 t7 t8 t28 t29 t47 t48 s.1 s.2 (fun a0 a1 => nx (a0, a1)) k0) n (t6, t49)
def triple_Passes_s6 {ρ : Type} (n : Nat) (t1_0 : Int) (t1_1 : List (List Int)) (t4 : List Int) (t28 : Int) (t6 : Int) (t29 : Int) (next : Int → Int → Option ρ) (k0 : Int → Option ρ) : Option ρ :=
  brO (decide (t29 < t28)) (
    triple_Passes_l10 n t1_0 t1_1 t4 t6 t29 t28 t29 t1_1 (t1_1.length : Int) ([]) 0 (fun x4' =>
      triple_Passes_l16 n t1_0 t1_1 t4 t29 x4' t28 t29 x4' (x4'.length : Int) t6 0 (fun x16' =>
        next x16' (IntKind.i64.wrap (t29 + 1))))) (
    k0 t6)
def triple_Passes_l6 {ρ : Type} (n : Nat) (t1_0 : Int) (t1_1 : List (List Int)) (t4 : List Int) (t28 : Int) (t6 : Int) (t29 : Int) (k0 : Int → Option ρ) : Option ρ :=
  iterM (fun (s : Int × Int) nx => triple_Passes_s6 n t1_0 t1_1 t4 t28 s.1 s.2 (fun a0 a1 => nx (a0, a1)) k0) n (t6, t29)
def triple_Passes (n : Nat) (toArray0_0 : Int) (toArray0_1 : List (List Int)) : Option (Int × Int) :=
  bnd (triple_open n toArray0_0 toArray0_1) fun z1' =>
  chk (0 = 0) <|
  chk (z1'.1.length = 1600) <|
  chk ((List.replicate 1600 (0 : Int)).length = 1600) <|
  brO (z1'.2 != 0) (
    some (0, z1'.2)) (
    triple_Passes_l6 n toArray0_0 toArray0_1 z1'.1 toArray0_0 0 0 (fun x17' =>
      some ((IntKind.i64.wrap (x17'.tdiv 6)), 0)))
def ref2_pasch_s6 {ρ : Type} (_n : Nat) (four1 : List Int) (_d2_0 : Int) (d2_1 : List (List Int)) (i6 : Int) (in_5 : List Int) (j7 : Int) (next : List Int → Int → Option ρ) (k0 : List Int → Option ρ) : Option ρ :=
  brO (decide (j7 < 3)) (
    chk (0 ≤ i6) <|
    chk (i6 < (four1.length : Int)) <|
    bnd (four1[i6.toNat]?) fun b1' =>
    chk (0 ≤ b1') <|
    chk (b1' < (d2_1.length : Int)) <|
    bnd (d2_1[b1'.toNat]?) fun r2' =>
    chk (0 ≤ j7) <|
    chk (j7 < (r2'.length : Int)) <|
    bnd (r2'[j7.toNat]?) fun b3' =>
    chk (0 ≤ b3') <|
    chk (b3' < (in_5.length : Int)) <|
    bnd (in_5[b3'.toNat]?) fun b4' =>
    chk (0 ≤ b3') <|
    chk (b3' < (in_5.length : Int)) <|
    chk (b3'.toNat < in_5.length) <|
    next (in_5.set b3'.toNat (IntKind.i64.wrap (b4' + 1))) (IntKind.i64.wrap (j7 + 1))) (
    k0 in_5)
def ref2_pasch_l6 {ρ : Type} (n : Nat) (four1 : List Int) (d2_0 : Int) (d2_1 : List (List Int)) (i6 : Int) (in_5 : List Int) (j7 : Int) (k0 : List Int → Option ρ) : Option ρ :=
  iterM (fun (s : (List Int) × Int) nx => ref2_pasch_s6 n four1 d2_0 d2_1 i6 s.1 s.2 (fun a0 a1 => nx (a0, a1)) k0) n (in_5, j7)
def ref2_pasch_s3 {ρ : Type} (n : Nat) (four1 : List Int) (d2_0 : Int) (d2_1 : List (List Int)) (in_5 : List Int) (i6 : Int) (next : List Int → Int → Option ρ) (k0 : List Int → Option ρ) : Option ρ :=
  brO (decide (i6 < 4)) (
    ref2_pasch_l6 n four1 d2_0 d2_1 i6 in_5 0 (fun x5' =>
      next x5' (IntKind.i64.wrap (i6 + 1)))) (
    k0 in_5)
def ref2_pasch_l3 {ρ : Type} (n : Nat) (four1 : List Int) (d2_0 : Int) (d2_1 : List (List Int)) (in_5 : List Int) (i6 : Int) (k0 : List Int → Option ρ) : Option ρ :=
  iterM (fun (s : (List Int) × Int) nx => ref2_pasch_s3 n four1 d2_0 d2_1 s.1 s.2 (fun a0 a1 => nx (a0, a1)) k0) n (in_5, i6)
def ref2_pasch_s10 {ρ : Type} (_n : Nat) (d2_0 : Int) (_d2_1 : List (List Int)) (in_5 : List Int) (x8 : Int) (next : Int → Option ρ) (k0 : Option ρ) (k1 : Option ρ) : Option ρ :=
  brO (decide (x8 < d2_0)) (
    chk (0 ≤ x8) <|
    chk (x8 < (in_5.length : Int)) <|
    bnd (in_5[x8.toNat]?) fun b7' =>
    brO (b7' != 0) (
      chk (0 ≤ x8) <|
      chk (x8 < (in_5.length : Int)) <|
      bnd (in_5[x8.toNat]?) fun b8' =>
      brO (b8' != 2) (
        k0) (
        next (IntKind.i64.wrap (x8 + 1)))) (
      next (IntKind.i64.wrap (x8 + 1)))) (
    k1)
def ref2_pasch_l10 {ρ : Type} (n : Nat) (d2_0 : Int) (d2_1 : List (List Int)) (in_5 : List Int) (x8 : Int) (k0 : Option ρ) (k1 : Option ρ) : Option ρ :=
  iterM (fun (s : Int) nx => ref2_pasch_s10 n d2_0 d2_1 in_5 s nx k0 k1) n x8
def ref2_pasch (n : Nat) (d0_0 : Int) (d0_1 : List (List Int)) (four1 : List Int) : Option (Bool) :=
  chk (d0_0 = d0_0) <|
  chk (0 ≤ d0_0) <|
  chk (d0_0 < 2 ^ 40) <|
  ref2_pasch_l3 n four1 d0_0 d0_1 (List.replicate d0_0.toNat (0 : Int)) 0 (fun x6' =>
    ref2_pasch_l10 n d0_0 d0_1 x6' 0 (
      some false) (
      some true))
def ref2_PassesOf_s18 {ρ : Type} (n : Nat) (t1_0 : Int) (t1_1 : List (List Int)) (t4 : Int) (t5 : Int) (t6 : Int) (t8 : Int) (t3 : Int) (t11 : Int) (next : Int → Int → Option ρ) (k0 : Int → Option ρ) : Option ρ :=
  brO (decide (t11 < t4)) (
    bnd (ref2_pasch n t1_0 t1_1 ([t5, t6, t8, t11])) fun z10' =>
    brO z10' (
      next (IntKind.i64.wrap (t3 + 1)) (IntKind.i64.wrap (t11 + 1))) (
      next t3 (IntKind.i64.wrap (t11 + 1)))) (
    k0 t3)
def ref2_PassesOf_l18 {ρ : Type} (n : Nat) (t1_0 : Int) (t1_1 : List (List Int)) (t4 : Int) (t5 : Int) (t6 : Int) (t8 : Int) (t3 : Int) (t11 : Int) (k0 : Int → Option ρ) : Option ρ :=
  iterM (fun (s : Int × Int) nx => ref2_PassesOf_s18 n t1_0 t1_1 t4 t5 t6 t8 s.1 s.2 (fun a0 a1 => nx (a0, a1)) k0) n (t3, t11)
def ref2_PassesOf_s12 {ρ : Type} (n : Nat) (t1_0 : Int) (t1_1 : List (List Int)) (t4 : Int) (t5 : Int) (t6 : Int) (t3 : Int) (t8 : Int) (next : Int → Int → Option ρ) (k0 : Int → Option ρ) : Option ρ :=
  brO (decide (t8 < t4)) (
    chk (0 ≤ t5) <|
    chk (t5 < (t1_1.length : Int)) <|
    bnd (t1_1[t5.toNat]?) fun r4' =>
    chk (0 ≤ t8) <|
    chk (t8 < (t1_1.length : Int)) <|
    bnd (t1_1[t8.toNat]?) fun r5' =>
    bnd (ref2_Together n r4' r5') fun z6' =>
    chk (0 ≤ t6) <|
    chk (t6 < (t1_1.length : Int)) <|
    bnd (t1_1[t6.toNat]?) fun r7' =>
    chk (0 ≤ t8) <|
    chk (t8 < (t1_1.length : Int)) <|
    bnd (t1_1[t8.toNat]?) fun r8' =>
    bnd (ref2_Together n r7' r8') fun z9' =>
    brO (z6' != 1) (
      next t3 (IntKind.i64.wrap (t8 + 1))) (
      brO (z9' != 1) (
        next t3 (IntKind.i64.wrap (t8 + 1))) (
        ref2_PassesOf_l18 n t1_0 t1_1 t4 t5 t6 t8 t3 (IntKind.i64.wrap (t8 + 1)) (fun x11' =>
          next x11' (IntKind.i64.wrap (t8 + 1)))))) (
    k0 t3)
def ref2_PassesOf_l12 {ρ : Type} (n : Nat) (t1_0 : Int) (t1_1 : List (List Int)) (t4 : Int) (t5 : Int) (t6 : Int) (t3 : Int) (t8 : Int) (k0 : Int → Option ρ) : Option ρ :=
  iterM (fun (s : Int × Int) nx => ref2_PassesOf_s12 n t1_0 t1_1 t4 t5 t6 s.1 s.2 (fun a0 a1 => nx (a0, a1)) k0) n (t3, t8)
def ref2_PassesOf_s7 {ρ : Type} (n : Nat) (t1_0 : Int) (t1_1 : List (List Int)) (t4 : Int) (t5 : Int) (t3 : Int) (t6 : Int) (next : Int → Int → Option ρ) (k0 : Int → Option ρ) : Option ρ :=
  brO (decide (t6 < t4)) (
    chk (0 ≤ t5) <|
    chk (t5 < (t1_1.length : Int)) <|
    bnd (t1_1[t5.toNat]?) fun r1' =>
    chk (0 ≤ t6) <|
    chk (t6 < (t1_1.length : Int)) <|
    bnd (t1_1[t6.toNat]?) fun r2' =>
    bnd (ref2_Together n r1' r2') fun z3' =>
    brO (z3' != 1) (
      next t3 (IntKind.i64.wrap (t6 + 1))) (
      ref2_PassesOf_l12 n t1_0 t1_1 t4 t5 t6 t3 (IntKind.i64.wrap (t6 + 1)) (fun x12' =>
        next x12' (IntKind.i64.wrap (t6 + 1))))) (
    k0 t3)
def ref2_PassesOf_l7 {ρ : Type} (n : Nat) (t1_0 : Int) (t1_1 : List (List Int)) (t4 : Int) (t5 : Int) (t3 : Int) (t6 : Int) (k0 : Int → Option ρ) : Option ρ :=
  iterM (fun (s : Int × Int) nx => ref2_PassesOf_s7 n t1_0 t1_1 t4 t5 s.1 s.2 (fun a0 a1 => nx (a0, a1)) k0) n (t3, t6)
def ref2_PassesOf_s4 {ρ : Type} (n : Nat) (t1_0 : Int) (t1_1 : List (List Int)) (t4 : Int) (t3 : Int) (t5 : Int) (next : Int → Int → Option ρ) (k0 : Int → Option ρ) : Option ρ :=
  brO (decide (t5 < t4)) (
    ref2_PassesOf_l7 n t1_0 t1_1 t4 t5 t3 (IntKind.i64.wrap (t5 + 1)) (fun x13' =>
      next x13' (IntKind.i64.wrap (t5 + 1)))) (
    k0 t3)
def ref2_PassesOf_l4 {ρ : Type} (n : Nat) (t1_0 : Int) (t1_1 : List (List Int)) (t4 : Int) (t3 : Int) (t5 : Int) (k0 : Int → Option ρ) : Option ρ :=
  iterM (fun (s : Int × Int) nx => ref2_PassesOf_s4 n t1_0 t1_1 t4 s.1 s.2 (fun a0 a1 => nx (a0, a1)) k0) n (t3, t5)
def ref2_PassesOf (n : Nat) (toArray0_0 : Int) (toArray0_1 : List (List Int)) : Option (Int) :=
  ref2_PassesOf_l4 n toArray0_0 toArray0_1 (toArray0_1.length : Int) 0 0 (fun x14' =>
    some x14')
def law2_TriplePasses (n : Nat) (d0_0 : Int) (d0_1 : List (List Int)) : Option (Bool) :=
  bnd (ref2_TripleFault n d0_0 d0_1) fun z1' =>
  bnd (triple_Passes n d0_0 d0_1) fun z2' =>
  brO (z1' != 0) (
    brO (z2'.2 == z1') (
      some (z2'.1 == 0)) (
      some false)) (
    bnd (ref2_PassesOf n d0_0 d0_1) fun z3' =>
    brO (z2'.2 == 0) (
      some (z2'.1 == z3')) (
      some false))
end Go.Gm
