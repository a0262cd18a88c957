/-
  Models of the functions, printed by program (gen.py) from the functions' code.
  Conditions: none; definitions alone.
-/
import Derived.Test.YtjneiglpfdkehaaG3
namespace Go.Gm
open Go Go.Gx
def ref2_DesignFault_s10 {ρ : Type} (n : Nat) (t1_0 : Int) (t1_1 : List (List Int)) (t3 : Int) (t4 : List Int) (t5 : Int) (next : Int → Option ρ) (k0 : Option ρ) (k1 : Option ρ) : Option ρ :=
  brO (decide (t5 < (t4.length : Int))) (
    chk (0 ≤ t5) <|
    chk (t5 < (t4.length : Int)) <|
    bnd (t4[t5.toNat]?) fun b2' =>
    brO (decide (b2' < 0)) (
      k0) (
      chk (0 ≤ t5) <|
      chk (t5 < (t4.length : Int)) <|
      bnd (t4[t5.toNat]?) fun b3' =>
      brO (decide (b3' ≥ t1_0)) (
        k0) (
        next (IntKind.i64.wrap (t5 + 1))))) (
    k1)
def ref2_DesignFault_l10 {ρ : Type} (n : Nat) (t1_0 : Int) (t1_1 : List (List Int)) (t3 : Int) (t4 : List Int) (t5 : Int) (k0 : Option ρ) (k1 : Option ρ) : Option ρ :=
  iterM (fun (s : Int) nx => ref2_DesignFault_s10 n t1_0 t1_1 t3 t4 s nx k0 k1) n t5
def ref2_DesignFault_s15 {ρ : Type} (n : Nat) (t1_0 : Int) (t1_1 : List (List Int)) (t3 : Int) (t4 : List Int) (t6 : Int) (next : Int → Option ρ) (k0 : Option ρ) (k1 : Option ρ) : Option ρ :=
  brO (decide (t6 < (t4.length : Int))) (
    chk (0 ≤ t6) <|
    chk (t6 < (t4.length : Int)) <|
    bnd (t4[t6.toNat]?) fun b4' =>
    chk (0 ≤ (IntKind.i64.wrap (t6 - 1))) <|
    chk ((IntKind.i64.wrap (t6 - 1)) < (t4.length : Int)) <|
    bnd (t4[(IntKind.i64.wrap (t6 - 1)).toNat]?) fun b5' =>
    brO (decide (b4' ≤ b5')) (
      k0) (
      next (IntKind.i64.wrap (t6 + 1)))) (
    k1)
def ref2_DesignFault_l15 {ρ : Type} (n : Nat) (t1_0 : Int) (t1_1 : List (List Int)) (t3 : Int) (t4 : List Int) (t6 : Int) (k0 : Option ρ) (k1 : Option ρ) : Option ρ :=
  iterM (fun (s : Int) nx => ref2_DesignFault_s15 n t1_0 t1_1 t3 t4 s nx k0 k1) n t6
def ref2_DesignFault_s6 {ρ : Type} (n : Nat) (t1_0 : Int) (t1_1 : List (List Int)) (t3 : Int) (next : Int → Option ρ) (k0 : Option ρ) (k1 : Option ρ) (k2 : Option ρ) : Option ρ :=
  brO (decide (t3 < (t1_1.length : Int))) (
    chk (0 ≤ t3) <|
    chk (t3 < (t1_1.length : Int)) <|
    bnd (t1_1[t3.toNat]?) fun r1' =>
    ref2_DesignFault_l10 n t1_0 t1_1 t3 r1' 0 (
      k0) (
      ref2_DesignFault_l15 n t1_0 t1_1 t3 r1' 1 (
        k1) (
        next (IntKind.i64.wrap (t3 + 1))))) (
    k2)
def ref2_DesignFault_l6 {ρ : Type} (n : Nat) (t1_0 : Int) (t1_1 : List (List Int)) (t3 : Int) (k0 : Option ρ) (k1 : Option ρ) (k2 : Option ρ) : Option ρ :=
  iterM (fun (s : Int) nx => ref2_DesignFault_s6 n t1_0 t1_1 s nx k0 k1 k2) n t3
def ref2_DesignFault (n : Nat) (toArray0_0 : Int) (toArray0_1 : List (List Int)) : Option (Int) :=
  brO (decide (toArray0_0 < 1)) (
    some 1) (
    brO (decide (toArray0_0 > 40)) (
      some 1) (
      brO (decide ((toArray0_1.length : Int) > 200)) (
        some 3) (
        ref2_DesignFault_l6 n toArray0_0 toArray0_1 0 (
          some 1) (
          some 2) (
          some 0))))
def ref2_Lies_s2 {ρ : Type} (n : Nat) (l0 : List Int) (x1 : Int) (i5 : Int) (next : Int → Option ρ) (k0 : Option ρ) (k1 : Option ρ) : Option ρ :=
  brO (decide (i5 < (l0.length : Int))) (
    chk (0 ≤ i5) <|
    chk (i5 < (l0.length : Int)) <|
    bnd (l0[i5.toNat]?) fun b1' =>
    brO (b1' == x1) (
      k0) (
      next (IntKind.i64.wrap (i5 + 1)))) (
    k1)
def ref2_Lies_l2 {ρ : Type} (n : Nat) (l0 : List Int) (x1 : Int) (i5 : Int) (k0 : Option ρ) (k1 : Option ρ) : Option ρ :=
  iterM (fun (s : Int) nx => ref2_Lies_s2 n l0 x1 s nx k0 k1) n i5
def ref2_Lies (n : Nat) (l0 : List Int) (x1 : Int) : Option (Bool) :=
  ref2_Lies_l2 n l0 x1 0 (
    some true) (
    some false)
def ref2_TripleFault_s5 {ρ : Type} (n : Nat) (t1_0 : Int) (t1_1 : List (List Int)) (t4 : Int) (next : Int → Option ρ) (k0 : Option ρ) (k1 : Option ρ) : Option ρ :=
  brO (decide (t4 < (t1_1.length : Int))) (
    chk (0 ≤ t4) <|
    chk (t4 < (t1_1.length : Int)) <|
    bnd (t1_1[t4.toNat]?) fun r2' =>
    brO ((r2'.length : Int) != 3) (
      k0) (
      next (IntKind.i64.wrap (t4 + 1)))) (
    k1)
def ref2_TripleFault_l5 {ρ : Type} (n : Nat) (t1_0 : Int) (t1_1 : List (List Int)) (t4 : Int) (k0 : Option ρ) (k1 : Option ρ) : Option ρ :=
  iterM (fun (s : Int) nx => ref2_TripleFault_s5 n t1_0 t1_1 s nx k0 k1) n t4
def ref2_TripleFault_s17 {ρ : Type} (n : Nat) (t1_0 : Int) (t1_1 : List (List Int)) (t5 : Int) (t6 : Int) (t7 : Int) (t8 : Int) (next : Int → Int → Option ρ) (k0 : Int → Option ρ) : Option ρ :=
  brO (decide (t8 < (t1_1.length : Int))) (
    chk (0 ≤ t8) <|
    chk (t8 < (t1_1.length : Int)) <|
    bnd (t1_1[t8.toNat]?) fun r3' =>
    bnd (ref2_Lies n r3' t5) fun z4' =>
    chk (0 ≤ t8) <|
    chk (t8 < (t1_1.length : Int)) <|
    bnd (t1_1[t8.toNat]?) fun r5' =>
    bnd (ref2_Lies n r5' t6) fun z6' =>
    brO z4' (
      brO z6' (
        next (IntKind.i64.wrap (t7 + 1)) (IntKind.i64.wrap (t8 + 1))) (
        next t7 (IntKind.i64.wrap (t8 + 1)))) (
      next t7 (IntKind.i64.wrap (t8 + 1)))) (
    k0 t7)
def ref2_TripleFault_l17 {ρ : Type} (n : Nat) (t1_0 : Int) (t1_1 : List (List Int)) (t5 : Int) (t6 : Int) (t7 : Int) (t8 : Int) (k0 : Int → Option ρ) : Option ρ :=
  iterM (fun (s : Int × Int) nx => ref2_TripleFault_s17 n t1_0 t1_1 t5 t6 s.1 s.2 (fun a0 a1 => nx (a0, a1)) k0) n (t7, t8)
def ref2_TripleFault_s13 {ρ : Type} (n : Nat) (t1_0 : Int) (t1_1 : List (List Int)) (t5 : Int) (t6 : Int) (next : Int → Option ρ) (k0 : Option ρ) (k1 : Option ρ) : Option ρ :=
  brO (decide (t6 < t5)) (
    ref2_TripleFault_l17 n t1_0 t1_1 t5 t6 0 0 (fun x7' =>
      brO (x7' != 1) (
        k0) (
        next (IntKind.i64.wrap (t6 + 1))))) (
    k1)
def ref2_TripleFault_l13 {ρ : Type} (n : Nat) (t1_0 : Int) (t1_1 : List (List Int)) (t5 : Int) (t6 : Int) (k0 : Option ρ) (k1 : Option ρ) : Option ρ :=
  iterM (fun (s : Int) nx => ref2_TripleFault_s13 n t1_0 t1_1 t5 s nx k0 k1) n t6
def ref2_TripleFault_s10 {ρ : Type} (n : Nat) (t1_0 : Int) (t1_1 : List (List Int)) (t5 : Int) (next : Int → Option ρ) (k0 : Option ρ) (k1 : Option ρ) : Option ρ :=
  brO (decide (t5 < t1_0)) (
    ref2_TripleFault_l13 n t1_0 t1_1 t5 0 (
      k0) (
      next (IntKind.i64.wrap (t5 + 1)))) (
    k1)
def ref2_TripleFault_l10 {ρ : Type} (n : Nat) (t1_0 : Int) (t1_1 : List (List Int)) (t5 : Int) (k0 : Option ρ) (k1 : Option ρ) : Option ρ :=
  iterM (fun (s : Int) nx => ref2_TripleFault_s10 n t1_0 t1_1 s nx k0 k1) n t5
def ref2_TripleFault (n : Nat) (toArray0_0 : Int) (toArray0_1 : List (List Int)) : Option (Int) :=
  bnd (ref2_DesignFault n toArray0_0 toArray0_1) fun z1' =>
  brO (z1' != 0) (
    some z1') (
    ref2_TripleFault_l5 n toArray0_0 toArray0_1 0 (
      some 4) (
      ref2_TripleFault_l10 n toArray0_0 toArray0_1 0 (
        some 4) (
        some 0)))
def design_Check_1 (n : Nat) (p0 : Int) (t1_0 : Int) (t1_1 : List (List Int)) : Option (Bool) :=
  brO (decide (p0 < 0)) (
    some true) (
    some (decide (p0 ≥ t1_0)))
def slices_IndexFunc_intint__design_Check_1_s2 {ρ : Type} (n : Nat) (s_0 : List Int) (f1_0 : Int) (f1_1 : List (List Int)) (t7 : Int) (t8 : Int) (next : Int → Option ρ) (k0 : Int → Option ρ) (k1 : Option ρ) : Option ρ :=
  brO (decide (t8 < t7)) (
    chk (0 ≤ t8) <|
    chk (t8 < (s_0.length : Int)) <|
    bnd (s_0[t8.toNat]?) fun b1' =>
    bnd (design_Check_1 n b1' f1_0 f1_1) fun z2' =>
    brO z2' (
      k0 t8) (
      next (IntKind.i64.wrap (t8 + 1)))) (
    k1)
def slices_IndexFunc_intint__design_Check_1_l2 {ρ : Type} (n : Nat) (s_0 : List Int) (f1_0 : Int) (f1_1 : List (List Int)) (t7 : Int) (t8 : Int) (k0 : Int → Option ρ) (k1 : Option ρ) : Option ρ :=
  iterM (fun (s : Int) nx => slices_IndexFunc_intint__design_Check_1_s2 n s_0 f1_0 f1_1 t7 s nx k0 k1) n t8
def slices_IndexFunc_intint__design_Check_1 (n : Nat) (s_0 : List Int) (f1_0 : Int) (f1_1 : List (List Int)) : Option (Int) :=
  slices_IndexFunc_intint__design_Check_1_l2 n s_0 f1_0 f1_1 (s_0.length : Int) 0 (fun x3' =>
    some x3') (
    some (-1))
def slices_ContainsFunc_intint__design_Check_1 (n : Nat) (s_0 : List Int) (f1_0 : Int) (f1_1 : List (List Int)) : Option (Bool) :=
  bnd (slices_IndexFunc_intint__design_Check_1 n s_0 f1_0 f1_1) fun z1' =>
  some (decide (z1' ≥ 0))
def design_Check_s11 {ρ : Type} (n : Nat) (d1_0 : Int) (d1_1 : List (List Int)) (b4 : List Int) (t21 : List (List Int)) (t22 : Int) (t23 : Int) (i5 : Int) (next : Int → Option ρ) (k0 : Option ρ) (k1 : Option ρ) : Option ρ :=
  brO (decide (i5 < (b4.length : Int))) (
    chk (0 ≤ i5) <|
    chk (i5 < (b4.length : Int)) <|
    bnd (b4[i5.toNat]?) fun b3' =>
    chk (0 ≤ (IntKind.i64.wrap (i5 - 1))) <|
    chk ((IntKind.i64.wrap (i5 - 1)) < (b4.length : Int)) <|
    bnd (b4[(IntKind.i64.wrap (i5 - 1)).toNat]?) fun b4' =>
    brO (decide (b3' ≤ b4')) (
      k0) (
      next (IntKind.i64.wrap (i5 + 1)))) (
    k1)
def design_Check_l11 {ρ : Type} (n : Nat) (d1_0 : Int) (d1_1 : List (List Int)) (b4 : List Int) (t21 : List (List Int)) (t22 : Int) (t23 : Int) (i5 : Int) (k0 : Option ρ) (k1 : Option ρ) : Option ρ :=
  iterM (fun (s : Int) nx => design_Check_s11 n d1_0 d1_1 b4 t21 t22 t23 s nx k0 k1) n i5
def design_Check_s6 {ρ : Type} (n : Nat) (d1_0 : Int) (d1_1 : List (List Int)) (t21 : List (List Int)) (t22 : Int) (t23 : Int) (next : Int → Option ρ) (k0 : Option ρ) (k1 : Option ρ) (k2 : Option ρ) : Option ρ :=
  brO (decide (t23 < t22)) (
    chk (0 ≤ t23) <|
    chk (t23 < (t21.length : Int)) <|
    bnd (t21[t23.toNat]?) fun r1' =>
    bnd (slices_ContainsFunc_intint__design_Check_1 n r1' d1_0 d1_1) fun z2' =>
    brO z2' (
      k0) (
      design_Check_l11 n d1_0 d1_1 r1' t21 t22 t23 1 (
        k1) (
        next (IntKind.i64.wrap (t23 + 1))))) (
    k2)
def design_Check_l6 {ρ : Type} (n : Nat) (d1_0 : Int) (d1_1 : List (List Int)) (t21 : List (List Int)) (t22 : Int) (t23 : Int) (k0 : Option ρ) (k1 : Option ρ) (k2 : Option ρ) : Option ρ :=
  iterM (fun (s : Int) nx => design_Check_s6 n d1_0 d1_1 t21 t22 s nx k0 k1 k2) n t23
def design_Check (n : Nat) (d0_0 : Int) (d0_1 : List (List Int)) : Option (Int) :=
  brO (decide (d0_0 < 1)) (
    some 1) (
    brO (decide (d0_0 > 40)) (
      some 1) (
      brO (decide ((d0_1.length : Int) > 200)) (
        some 3) (
        design_Check_l6 n d0_0 d0_1 d0_1 (d0_1.length : Int) 0 (
          some 1) (
          some 2) (
          some 0))))
def triple_open_1 (n : Nat) (b0 : List Int) : Option (Bool) :=
  some ((b0.length : Int) != 3)
def slices_IndexFunc_intint__triple_open_1_s2 {ρ : Type} (n : Nat) (s_0 : List (List Int)) (t7 : Int) (t8 : Int) (next : Int → Option ρ) (k0 : Int → Option ρ) (k1 : Option ρ) : Option ρ :=
  brO (decide (t8 < t7)) (
    chk (0 ≤ t8) <|
    chk (t8 < (s_0.length : Int)) <|
    bnd (s_0[t8.toNat]?) fun r1' =>
    bnd (triple_open_1 n r1') fun z2' =>
    brO z2' (
      k0 t8) (
      next (IntKind.i64.wrap (t8 + 1)))) (
    k1)
def slices_IndexFunc_intint__triple_open_1_l2 {ρ : Type} (n : Nat) (s_0 : List (List Int)) (t7 : Int) (t8 : Int) (k0 : Int → Option ρ) (k1 : Option ρ) : Option ρ :=
  iterM (fun (s : Int) nx => slices_IndexFunc_intint__triple_open_1_s2 n s_0 t7 s nx k0 k1) n t8
def slices_IndexFunc_intint__triple_open_1 (n : Nat) (s_0 : List (List Int)) : Option (Int) :=
  slices_IndexFunc_intint__triple_open_1_l2 n s_0 (s_0.length : Int) 0 (fun x3' =>
    some x3') (
    some (-1))
def slices_ContainsFunc_intint__triple_open_1 (n : Nat) (s_0 : List (List Int)) : Option (Bool) :=
  bnd (slices_IndexFunc_intint__triple_open_1 n s_0) fun z1' =>
  some (decide (z1' ≥ 0))
def triple_third_s6 {ρ : Type} (n : Nat) (toArray0 : List (List Int)) (t2 : List Int) (t5 : Int) (t13 : Int) (t4 : List Int) (t16 : Int) (next : List Int → Int → Option ρ) (k0 : List Int → Option ρ) : Option ρ :=
  brO (decide (t16 < 40)) (
    chk (0 ≤ t5) <|
    chk (t5 < 40) <|
    chk (0 ≤ t16) <|
    chk (t16 < 40) <|
    chk (((0 + (t5.toNat * 40)) + (t16.toNat * 1)) < t4.length) <|
    next (t4.set ((0 + (t5.toNat * 40)) + (t16.toNat * 1)) (-1)) (IntKind.i64.wrap (t16 + 1))) (
    k0 t4)
def triple_third_l6 {ρ : Type} (n : Nat) (toArray0 : List (List Int)) (t2 : List Int) (t5 : Int) (t13 : Int) (t4 : List Int) (t16 : Int) (k0 : List Int → Option ρ) : Option ρ :=
  iterM (fun (s : (List Int) × Int) nx => triple_third_s6 n toArray0 t2 t5 t13 s.1 s.2 (fun a0 a1 => nx (a0, a1)) k0) n (t4, t16)
def triple_third_s3 {ρ : Type} (n : Nat) (toArray0 : List (List Int)) (t2 : List Int) (t4 : List Int) (t13 : Int) (next : List Int → Int → Option ρ) (k0 : List Int → Option ρ) : Option ρ :=
  brO (decide (t13 < 40)) (
    triple_third_l6 n toArray0 t2 t13 t13 t4 0 (fun x1' =>
      next x1' (IntKind.i64.wrap (t13 + 1)))) (
    k0 t4)
def triple_third_l3 {ρ : Type} (n : Nat) (toArray0 : List (List Int)) (t2 : List Int) (t4 : List Int) (t13 : Int) (k0 : List Int → Option ρ) : Option ρ :=
  iterM (fun (s : (List Int) × Int) nx => triple_third_s3 n toArray0 t2 s.1 s.2 (fun a0 a1 => nx (a0, a1)) k0) n (t4, t13)
def triple_third_s15 {ρ : Type} (n : Nat) (t2 : List Int) (t8 : List Int) (t25 : List (List Int)) (t26 : Int) (t27 : Int) (t31 : List Int) (t32 : Int) (t4 : List Int) (t33 : Int) (next : List Int → Int → Option ρ) (k0 : List Int → Option ρ) (k1 : List Int → Option ρ) : Option ρ :=
  brO (decide (t33 < t32)) (
    chk (0 ≤ t33) <|
    chk (t33 < (t31.length : Int)) <|
    bnd (t31[t33.toNat]?) fun b4' =>
    chk (0 ≤ ((IntKind.i64.wrap (t33 + 1)).tmod 3)) <|
    chk (((IntKind.i64.wrap (t33 + 1)).tmod 3) < (t8.length : Int)) <|
    bnd (t8[((IntKind.i64.wrap (t33 + 1)).tmod 3).toNat]?) fun b5' =>
    chk (0 ≤ ((IntKind.i64.wrap (t33 + 2)).tmod 3)) <|
    chk (((IntKind.i64.wrap (t33 + 2)).tmod 3) < (t8.length : Int)) <|
    bnd (t8[((IntKind.i64.wrap (t33 + 2)).tmod 3).toNat]?) fun b6' =>
    chk (0 ≤ b4') <|
    chk (b4' < 40) <|
    chk (0 ≤ b5') <|
    chk (b5' < 40) <|
    bnd (t4[((0 + (b4'.toNat * 40)) + (b5'.toNat * 1))]?) fun b7' =>
    brO (decide (b7' ≥ 0)) (
      chk (0 = 0) <|
      chk ((List.replicate 1600 (0 : Int)).length = 1600) <|
      chk (t2.length = 1600) <|
      k0 (List.replicate 1600 (0 : Int))) (
      chk (0 ≤ b4') <|
      chk (b4' < 40) <|
      chk (0 ≤ b5') <|
      chk (b5' < 40) <|
      chk (((0 + (b4'.toNat * 40)) + (b5'.toNat * 1)) < t4.length) <|
      chk (0 ≤ b5') <|
      chk (b5' < 40) <|
      chk (0 ≤ b4') <|
      chk (b4' < 40) <|
      chk (((0 + (b5'.toNat * 40)) + (b4'.toNat * 1)) < (t4.set ((0 + (b4'.toNat * 40)) + (b5'.toNat * 1)) b6').length) <|
      next ((t4.set ((0 + (b4'.toNat * 40)) + (b5'.toNat * 1)) b6').set ((0 + (b5'.toNat * 40)) + (b4'.toNat * 1)) b6') (IntKind.i64.wrap (t33 + 1)))) (
    k1 t4)
def triple_third_l15 {ρ : Type} (n : Nat) (t2 : List Int) (t8 : List Int) (t25 : List (List Int)) (t26 : Int) (t27 : Int) (t31 : List Int) (t32 : Int) (t4 : List Int) (t33 : Int) (k0 : List Int → Option ρ) (k1 : List Int → Option ρ) : Option ρ :=
  iterM (fun (s : (List Int) × Int) nx => triple_third_s15 n t2 t8 t25 t26 t27 t31 t32 s.1 s.2 (fun a0 a1 => nx (a0, a1)) k0 k1) n (t4, t33)
def triple_third_s12 {ρ : Type} (n : Nat) (t2 : List Int) (t25 : List (List Int)) (t26 : Int) (t4 : List Int) (t27 : Int) (next : List Int → Int → Option ρ) (k0 : List Int → Option ρ) (k1 : List Int → Option ρ) : Option ρ :=
  brO (decide (t27 < t26)) (
    chk (0 ≤ t27) <|
    chk (t27 < (t25.length : Int)) <|
    bnd (t25[t27.toNat]?) fun r3' =>
    triple_third_l15 n t2 r3' t25 t26 t27 r3' (r3'.length : Int) t4 0 (fun x8' =>
      k0 x8') (fun x9' =>
      next x9' (IntKind.i64.wrap (t27 + 1)))) (
    k1 t4)
def triple_third_l12 {ρ : Type} (n : Nat) (t2 : List Int) (t25 : List (List Int)) (t26 : Int) (t4 : List Int) (t27 : Int) (k0 : List Int → Option ρ) (k1 : List Int → Option ρ) : Option ρ :=
  iterM (fun (s : (List Int) × Int) nx => triple_third_s12 n t2 t25 t26 s.1 s.2 (fun a0 a1 => nx (a0, a1)) k0 k1) n (t4, t27)
def triple_third (n : Nat) (toArray0 : List (List Int)) : Option ((List Int) × Bool) :=
  triple_third_l3 n toArray0 (List.replicate 1600 (0 : Int)) (List.replicate 1600 (0 : Int)) 0 (fun x2' =>
    triple_third_l12 n (List.replicate 1600 (0 : Int)) toArray0 (toArray0.length : Int) x2' 0 (fun x10' =>
      chk ((x10'.length == 1600) = true) <|
      some (x10', false)) (fun x11' =>
      chk (0 = 0) <|
      chk (x11'.length = 1600) <|
      chk (0 = 0) <|
      chk (x11'.length = 1600) <|
      chk ((List.replicate 1600 (0 : Int)).length = 1600) <|
      chk ((x11'.length == 1600) = true) <|
      some (x11', true)))
def triple_open (n : Nat) (d0_0 : Int) (d0_1 : List (List Int)) : Option ((List Int) × Int) :=
  bnd (design_Check n d0_0 d0_1) fun z1' =>
  brO (z1' != 0) (
    chk (0 = 0) <|
    chk ((List.replicate 1600 (0 : Int)).length = 1600) <|
    chk ((List.replicate 1600 (0 : Int)).length = 1600) <|
    chk (((List.replicate 1600 (0 : Int)).length == 1600) = true) <|
    some ((List.replicate 1600 (0 : Int)), z1')) (
    bnd (slices_ContainsFunc_intint__triple_open_1 n d0_1) fun z2' =>
    brO z2' (
      chk (0 = 0) <|
      chk ((List.replicate 1600 (0 : Int)).length = 1600) <|
      chk ((List.replicate 1600 (0 : Int)).length = 1600) <|
      chk (((List.replicate 1600 (0 : Int)).length == 1600) = true) <|
      some ((List.replicate 1600 (0 : Int)), 4)) (
      bnd (triple_third n d0_1) fun z3' =>
      chk (0 = 0) <|
      chk (z3'.1.length = 1600) <|
      chk ((List.replicate 1600 (0 : Int)).length = 1600) <|
      brO (!z3'.2) (
        chk (0 = 0) <|
        chk ((List.replicate 1600 (0 : Int)).length = 1600) <|
        chk ((List.replicate 1600 (0 : Int)).length = 1600) <|
        chk (((List.replicate 1600 (0 : Int)).length == 1600) = true) <|
        some ((List.replicate 1600 (0 : Int)), 4)) (
        brO ((IntKind.i64.wrap (6 * (d0_1.length : Int))) != (IntKind.i64.wrap (d0_0 * (IntKind.i64.wrap (d0_0 - 1))))) (
          chk (0 = 0) <|
          chk ((List.replicate 1600 (0 : Int)).length = 1600) <|
          chk ((List.replicate 1600 (0 : Int)).length = 1600) <|
          chk (((List.replicate 1600 (0 : Int)).length == 1600) = true) <|
          some ((List.replicate 1600 (0 : Int)), 4)) (
          chk (0 = 0) <|
          chk (z3'.1.length = 1600) <|
          chk (0 = 0) <|
          chk (z3'.1.length = 1600) <|
          chk ((List.replicate 1600 (0 : Int)).length = 1600) <|
          chk ((z3'.1.length == 1600) = true) <|
          some (z3'.1, 0)))))
def slices_Index_intint_s2 {ρ : Type} (n : Nat) (s_0 : List Int) (v1 : Int) (t7 : Int) (t8 : Int) (next : Int → Option ρ) (k0 : Int → Option ρ) (k1 : Option ρ) : Option ρ :=
  brO (decide (t8 < t7)) (
    chk (0 ≤ t8) <|
    chk (t8 < (s_0.length : Int)) <|
    bnd (s_0[t8.toNat]?) fun b1' =>
    brO (v1 == b1') (
      k0 t8) (
      next (IntKind.i64.wrap (t8 + 1)))) (
    k1)
def slices_Index_intint_l2 {ρ : Type} (n : Nat) (s_0 : List Int) (v1 : Int) (t7 : Int) (t8 : Int) (k0 : Int → Option ρ) (k1 : Option ρ) : Option ρ :=
  iterM (fun (s : Int) nx => slices_Index_intint_s2 n s_0 v1 t7 s nx k0 k1) n t8
def slices_Index_intint (n : Nat) (s_0 : List Int) (v1 : Int) : Option (Int) :=
  slices_Index_intint_l2 n s_0 v1 (s_0.length : Int) 0 (fun x2' =>
    some x2') (
    some (-1))
def slices_Contains_intint (n : Nat) (s_0 : List Int) (v1 : Int) : Option (Bool) :=
  bnd (slices_Index_intint n s_0 v1) fun z1' =>
  some (decide (z1' ≥ 0))
def triple_others (n : Nat) (b0 : List Int) (p1 : Int) : Option (Int × Int) :=
  bnd (slices_Index_intint n b0 p1) fun z1' =>
  chk (0 ≤ ((IntKind.i64.wrap (z1' + 1)).tmod 3)) <|
  chk (((IntKind.i64.wrap (z1' + 1)).tmod 3) < (b0.length : Int)) <|
  bnd (b0[((IntKind.i64.wrap (z1' + 1)).tmod 3).toNat]?) fun b2' =>
  chk (0 ≤ ((IntKind.i64.wrap (z1' + 2)).tmod 3)) <|
  chk (((IntKind.i64.wrap (z1' + 2)).tmod 3) < (b0.length : Int)) <|
  bnd (b0[((IntKind.i64.wrap (z1' + 2)).tmod 3).toNat]?) fun b3' =>
  some (b2', b3')
def triple_Passes_s10 {ρ : Type} (n : Nat) (t1_0 : Int) (t1_1 : List (List Int)) (t4 : List Int) (t6 : Int) (t7 : Int) (t28 : Int) (t29 : Int) (t33 : List (List Int)) (t34 : Int) (t8 : List (List Int)) (t35 : Int) (next : List (List Int) → Int → Option ρ) (k0 : List (List Int) → Option ρ) : Option ρ :=
  brO (decide (t35 < t34)) (
    chk (0 ≤ t35) <|
    chk (t35 < (t33.length : Int)) <|
    bnd (t33[t35.toNat]?) fun r2' =>
    bnd (slices_Contains_intint n r2' t7) fun z3' =>
    brO z3' (
      chk (41 = 41) <|
      chk ((t8 ++ [r2']).length < 2 ^ 40) <|
      next (t8 ++ [r2']) (IntKind.i64.wrap (t35 + 1))) (
      next t8 (IntKind.i64.wrap (t35 + 1)))) (
    k0 t8)
def triple_Passes_l10 {ρ : Type} (n : Nat) (t1_0 : Int) (t1_1 : List (List Int)) (t4 : List Int) (t6 : Int) (t7 : Int) (t28 : Int) (t29 : Int) (t33 : List (List Int)) (t34 : Int) (t8 : List (List Int)) (t35 : Int) (k0 : List (List Int) → Option ρ) : Option ρ :=
  iterM (fun (s : (List (List Int)) × Int) nx => triple_Passes_s10 n t1_0 t1_1 t4 t6 t7 t28 t29 t33 t34 s.1 s.2 (fun a0 a1 => nx (a0, a1)) k0) n (t8, t35)
def triple_Passes_s20 {ρ : Type} (n : Nat) (t1_0 : Int) (t1_1 : List (List Int)) (t4 : List Int) (t7 : Int) (t8 : List (List Int)) (t13 : Int) (t14 : Int) (t28 : Int) (t29 : Int) (t47 : List (List Int)) (t48 : Int) (t49 : Int) (t62 : List (List Int)) (t63 : Int) (t6 : Int) (t64 : Int) (next : Int → Int → Option ρ) (k0 : Int → Option ρ) : Option ρ :=
  brO (decide (t64 < t63)) (
    chk (0 ≤ t64) <|
    chk (t64 < (t62.length : Int)) <|
    bnd (t62[t64.toNat]?) fun r7' =>
    bnd (triple_others n r7' t7) fun z8' =>
    chk (0 ≤ t13) <|
    chk (t13 < 40) <|
    chk (0 ≤ z8'.1) <|
    chk (z8'.1 < 40) <|
    bnd (t4[((0 + (t13.toNat * 40)) + (z8'.1.toNat * 1))]?) fun b9' =>
    chk (0 ≤ t14) <|
    chk (t14 < 40) <|
    chk (0 ≤ z8'.2) <|
    chk (z8'.2 < 40) <|
    bnd (t4[((0 + (t14.toNat * 40)) + (z8'.2.toNat * 1))]?) fun b10' =>
    brO (b9' == b10') (
      chk (0 ≤ t13) <|
      chk (t13 < 40) <|
      chk (0 ≤ z8'.2) <|
      chk (z8'.2 < 40) <|
      bnd (t4[((0 + (t13.toNat * 40)) + (z8'.2.toNat * 1))]?) fun b11' =>
      chk (0 ≤ t14) <|
      chk (t14 < 40) <|
      chk (0 ≤ z8'.1) <|
      chk (z8'.1 < 40) <|
      bnd (t4[((0 + (t14.toNat * 40)) + (z8'.1.toNat * 1))]?) fun b12' =>
      brO (b11' == b12') (
        next (IntKind.i64.wrap ((IntKind.i64.wrap (t6 + 1)) + 1)) (IntKind.i64.wrap (t64 + 1))) (
        next (IntKind.i64.wrap (t6 + 1)) (IntKind.i64.wrap (t64 + 1)))) (
      chk (0 ≤ t13) <|
      chk (t13 < 40) <|
      chk (0 ≤ z8'.2) <|
      chk (z8'.2 < 40) <|
      bnd (t4[((0 + (t13.toNat * 40)) + (z8'.2.toNat * 1))]?) fun b13' =>
      chk (0 ≤ t14) <|
      chk (t14 < 40) <|
      chk (0 ≤ z8'.1) <|
      chk (z8'.1 < 40) <|
      bnd (t4[((0 + (t14.toNat * 40)) + (z8'.1.toNat * 1))]?) fun b14' =>
      brO (b13' == b14') (
        next (IntKind.i64.wrap (t6 + 1)) (IntKind.i64.wrap (t64 + 1))) (
        next t6 (IntKind.i64.wrap (t64 + 1))))) (
    k0 t6)
def triple_Passes_l20 {ρ : Type} (n : Nat) (t1_0 : Int) (t1_1 : List (List Int)) (t4 : List Int) (t7 : Int) (t8 : List (List Int)) (t13 : Int) (t14 : Int) (t28 : Int) (t29 : Int) (t47 : List (List Int)) (t48 : Int) (t49 : Int) (t62 : List (List Int)) (t63 : Int) (t6 : Int) (t64 : Int) (k0 : Int → Option ρ) : Option ρ :=
  iterM (fun (s : Int × Int) nx => triple_Passes_s20 n t1_0 t1_1 t4 t7 t8 t13 t14 t28 t29 t47 t48 t49 t62 t63 s.1 s.2 (fun a0 a1 => nx (a0, a1)) k0) n (t6, t64)
def triple_Passes_s16 {ρ : Type} (n : Nat) (t1_0 : Int) (t1_1 : List (List Int)) (t4 : List Int) (t7 : Int) (t8 : List (List Int)) (t28 : Int) (t29 : Int) (t47 : List (List Int)) (t48 : Int) (t6 : Int) (t49 : Int) (next : Int → Int → Option ρ) (k0 : Int → Option ρ) : Option ρ :=
  brO (decide (t49 < t48)) (
    chk (0 ≤ t49) <|
    chk (t49 < (t47.length : Int)) <|
    bnd (t47[t49.toNat]?) fun r5' =>
    bnd (triple_others n r5' t7) fun z6' =>
    chk (0 ≤ (0 : Int)) <|
    chk ((0 : Int) ≤ t49) <|
    chk (t49 ≤ (t8.length : Int)) <|
    triple_Passes_l20 n t1_0 t1_1 t4 t7 t8 z6'.1 z6'.2 t28 t29 t47 t48 t49 (t8.take t49.toNat) ((t8.take t49.toNat).length : Int) t6 0 (fun x15' =>
      next x15' (IntKind.i64.wrap (t49 + 1)))) (
    k0 t6)
def triple_Passes_l16 {ρ : Type} (n : Nat) (t1_0 : Int) (t1_1 : List (List Int)) (t4 : List Int) (t7 : Int) (t8 : List (List Int)) (t28 : Int) (t29 : Int) (t47 : List (List Int)) (t48 : Int) (t6 : Int) (t49 : Int) (k0 : Int → Option ρ) : Option ρ :=
  iterM (fun (s : Int × Int) nx => triple_Passes_s16 n t1_0 t1_1 t4 t7 t8 t28 t29 t47 t48 s.1 s.2 (fun a0 a1 => nx (a0, a1)) k0) n (t6, t49)
def triple_Passes_s6 {ρ : Type} (n : Nat) (t1_0 : Int) (t1_1 : List (List Int)) (t4 : List Int) (t28 : Int) (t6 : Int) (t29 : Int) (next : Int → Int → Option ρ) (k0 : Int → Option ρ) : Option ρ :=
  brO (decide (t29 < t28)) (
    triple_Passes_l10 n t1_0 t1_1 t4 t6 t29 t28 t29 t1_1 (t1_1.length : Int) ([]) 0 (fun x4' =>
      triple_Passes_l16 n t1_0 t1_1 t4 t29 x4' t28 t29 x4' (x4'.length : Int) t6 0 (fun x16' =>
        next x16' (IntKind.i64.wrap (t29 + 1))))) (
    k0 t6)
def triple_Passes_l6 {ρ : Type} (n : Nat) (t1_0 : Int) (t1_1 : List (List Int)) (t4 : List Int) (t28 : Int) (t6 : Int) (t29 : Int) (k0 : Int → Option ρ) : Option ρ :=
  iterM (fun (s : Int × Int) nx => triple_Passes_s6 n t1_0 t1_1 t4 t28 s.1 s.2 (fun a0 a1 => nx (a0, a1)) k0) n (t6, t29)
def triple_Passes (n : Nat) (toArray0_0 : Int) (toArray0_1 : List (List Int)) : Option (Int × Int) :=
  bnd (triple_open n toArray0_0 toArray0_1) fun z1' =>
  chk (0 = 0) <|
  chk (z1'.1.length = 1600) <|
  chk ((List.replicate 1600 (0 : Int)).length = 1600) <|
  brO (z1'.2 != 0) (
    some (0, z1'.2)) (
    triple_Passes_l6 n toArray0_0 toArray0_1 z1'.1 toArray0_0 0 0 (fun x17' =>
      some ((IntKind.i64.wrap (x17'.tdiv 6)), 0)))
def ref2_Together_s3 {ρ : Type} (n : Nat) (a0 : List Int) (b1 : List Int) (n_5 : Int) (i6 : Int) (next : Int → Int → Option ρ) (k0 : Int → Option ρ) : Option ρ :=
  brO (decide (i6 < (a0.length : Int))) (
    chk (0 ≤ i6) <|
    chk (i6 < (a0.length : Int)) <|
    bnd (a0[i6.toNat]?) fun b1' =>
    bnd (ref2_Lies n b1 b1') fun z2' =>
    brO z2' (
      next (IntKind.i64.wrap (n_5 + 1)) (IntKind.i64.wrap (i6 + 1))) (
      next n_5 (IntKind.i64.wrap (i6 + 1)))) (
    k0 n_5)
def ref2_Together_l3 {ρ : Type} (n : Nat) (a0 : List Int) (b1 : List Int) (n_5 : Int) (i6 : Int) (k0 : Int → Option ρ) : Option ρ :=
  iterM (fun (s : Int × Int) nx => ref2_Together_s3 n a0 b1 s.1 s.2 (fun a0 a1 => nx (a0, a1)) k0) n (n_5, i6)
def ref2_Together (n : Nat) (a0 : List Int) (b1 : List Int) : Option (Int) :=
  ref2_Together_l3 n a0 b1 0 0 (fun x3' =>
    some x3')
def ref2_pasch_s6 {ρ : Type} (n : Nat) (four1 : List Int) (d2_0 : Int) (d2_1 : List (List Int)) (i6 : Int) (in_5 : List Int) (j7 : Int) (next : List Int → Int → Option ρ) (k0 : List Int → Option ρ) : Option ρ :=
  brO (decide (j7 < 3)) (
    chk (0 ≤ i6) <|
    chk (i6 < (four1.length : Int)) <|
    bnd (four1[i6.toNat]?) fun b1' =>
    chk (0 ≤ b1') <|
    chk (b1' < (d2_1.length : Int)) <|
    bnd (d2_1[b1'.toNat]?) fun r2' =>
    chk (0 ≤ j7) <|
    chk (j7 < (r2'.length : Int)) <|
    bnd (r2'[j7.toNat]?) fun b3' =>
    chk (0 ≤ b3') <|
    chk (b3' < (in_5.length : Int)) <|
    bnd (in_5[b3'.toNat]?) fun b4' =>
    chk (0 ≤ b3') <|
    chk (b3' < (in_5.length : Int)) <|
    chk (b3'.toNat < in_5.length) <|
    next (in_5.set b3'.toNat (IntKind.i64.wrap (b4' + 1))) (IntKind.i64.wrap (j7 + 1))) (
    k0 in_5)
def ref2_pasch_l6 {ρ : Type} (n : Nat) (four1 : List Int) (d2_0 : Int) (d2_1 : List (List Int)) (i6 : Int) (in_5 : List Int) (j7 : Int) (k0 : List Int → Option ρ) : Option ρ :=
  iterM (fun (s : (List Int) × Int) nx => ref2_pasch_s6 n four1 d2_0 d2_1 i6 s.1 s.2 (fun a0 a1 => nx (a0, a1)) k0) n (in_5, j7)
def ref2_pasch_s3 {ρ : Type} (n : Nat) (four1 : List Int) (d2_0 : Int) (d2_1 : List (List Int)) (in_5 : List Int) (i6 : Int) (next : List Int → Int → Option ρ) (k0 : List Int → Option ρ) : Option ρ :=
  brO (decide (i6 < 4)) (
    ref2_pasch_l6 n four1 d2_0 d2_1 i6 in_5 0 (fun x5' =>
      next x5' (IntKind.i64.wrap (i6 + 1)))) (
    k0 in_5)
def ref2_pasch_l3 {ρ : Type} (n : Nat) (four1 : List Int) (d2_0 : Int) (d2_1 : List (List Int)) (in_5 : List Int) (i6 : Int) (k0 : List Int → Option ρ) : Option ρ :=
  iterM (fun (s : (List Int) × Int) nx => ref2_pasch_s3 n four1 d2_0 d2_1 s.1 s.2 (fun a0 a1 => nx (a0, a1)) k0) n (in_5, i6)
def ref2_pasch_s10 {ρ : Type} (n : Nat) (d2_0 : Int) (d2_1 : List (List Int)) (in_5 : List Int) (x8 : Int) (next : Int → Option ρ) (k0 : Option ρ) (k1 : Option ρ) : Option ρ :=
  brO (decide (x8 < d2_0)) (
    chk (0 ≤ x8) <|
    chk (x8 < (in_5.length : Int)) <|
    bnd (in_5[x8.toNat]?) fun b7' =>
    brO (b7' != 0) (
      chk (0 ≤ x8) <|
      chk (x8 < (in_5.length : Int)) <|
      bnd (in_5[x8.toNat]?) fun b8' =>
      brO (b8' != 2) (
        k0) (
        next (IntKind.i64.wrap (x8 + 1)))) (
      next (IntKind.i64.wrap (x8 + 1)))) (
    k1)
def ref2_pasch_l10 {ρ : Type} (n : Nat) (d2_0 : Int) (d2_1 : List (List Int)) (in_5 : List Int) (x8 : Int) (k0 : Option ρ) (k1 : Option ρ) : Option ρ :=
  iterM (fun (s : Int) nx => ref2_pasch_s10 n d2_0 d2_1 in_5 s nx k0 k1) n x8
def ref2_pasch (n : Nat) (d0_0 : Int) (d0_1 : List (List Int)) (four1 : List Int) : Option (Bool) :=
  chk (d0_0 = d0_0) <|
  chk (0 ≤ d0_0) <|
  chk (d0_0 < 2 ^ 40) <|
  ref2_pasch_l3 n four1 d0_0 d0_1 (List.replicate d0_0.toNat (0 : Int)) 0 (fun x6' =>
    ref2_pasch_l10 n d0_0 d0_1 x6' 0 (
      some false) (
      some true))
def ref2_PassesOf_s18 {ρ : Type} (n : Nat) (t1_0 : Int) (t1_1 : List (List Int)) (t4 : Int) (t5 : Int) (t6 : Int) (t8 : Int) (t3 : Int) (t11 : Int) (next : Int → Int → Option ρ) (k0 : Int → Option ρ) : Option ρ :=
  brO (decide (t11 < t4)) (
    bnd (ref2_pasch n t1_0 t1_1 ([t5, t6, t8, t11])) fun z10' =>
    brO z10' (
      next (IntKind.i64.wrap (t3 + 1)) (IntKind.i64.wrap (t11 + 1))) (
      next t3 (IntKind.i64.wrap (t11 + 1)))) (
    k0 t3)
def ref2_PassesOf_l18 {ρ : Type} (n : Nat) (t1_0 : Int) (t1_1 : List (List Int)) (t4 : Int) (t5 : Int) (t6 : Int) (t8 : Int) (t3 : Int) (t11 : Int) (k0 : Int → Option ρ) : Option ρ :=
  iterM (fun (s : Int × Int) nx => ref2_PassesOf_s18 n t1_0 t1_1 t4 t5 t6 t8 s.1 s.2 (fun a0 a1 => nx (a0, a1)) k0) n (t3, t11)
def ref2_PassesOf_s12 {ρ : Type} (n : Nat) (t1_0 : Int) (t1_1 : List (List Int)) (t4 : Int) (t5 : Int) (t6 : Int) (t3 : Int) (t8 : Int) (next : Int → Int → Option ρ) (k0 : Int → Option ρ) : Option ρ :=
  brO (decide (t8 < t4)) (
    chk (0 ≤ t5) <|
    chk (t5 < (t1_1.length : Int)) <|
    bnd (t1_1[t5.toNat]?) fun r4' =>
    chk (0 ≤ t8) <|
    chk (t8 < (t1_1.length : Int)) <|
    bnd (t1_1[t8.toNat]?) fun r5' =>
    bnd (ref2_Together n r4' r5') fun z6' =>
    chk (0 ≤ t6) <|
    chk (t6 < (t1_1.length : Int)) <|
    bnd (t1_1[t6.toNat]?) fun r7' =>
    chk (0 ≤ t8) <|
    chk (t8 < (t1_1.length : Int)) <|
    bnd (t1_1[t8.toNat]?) fun r8' =>
    bnd (ref2_Together n r7' r8') fun z9' =>
    brO (z6' != 1) (
      next t3 (IntKind.i64.wrap (t8 + 1))) (
      brO (z9' != 1) (
        next t3 (IntKind.i64.wrap (t8 + 1))) (
        ref2_PassesOf_l18 n t1_0 t1_1 t4 t5 t6 t8 t3 (IntKind.i64.wrap (t8 + 1)) (fun x11' =>
          next x11' (IntKind.i64.wrap (t8 + 1)))))) (
    k0 t3)
def ref2_PassesOf_l12 {ρ : Type} (n : Nat) (t1_0 : Int) (t1_1 : List (List Int)) (t4 : Int) (t5 : Int) (t6 : Int) (t3 : Int) (t8 : Int) (k0 : Int → Option ρ) : Option ρ :=
  iterM (fun (s : Int × Int) nx => ref2_PassesOf_s12 n t1_0 t1_1 t4 t5 t6 s.1 s.2 (fun a0 a1 => nx (a0, a1)) k0) n (t3, t8)
def ref2_PassesOf_s7 {ρ : Type} (n : Nat) (t1_0 : Int) (t1_1 : List (List Int)) (t4 : Int) (t5 : Int) (t3 : Int) (t6 : Int) (next : Int → Int → Option ρ) (k0 : Int → Option ρ) : Option ρ :=
  brO (decide (t6 < t4)) (
    chk (0 ≤ t5) <|
    chk (t5 < (t1_1.length : Int)) <|
    bnd (t1_1[t5.toNat]?) fun r1' =>
    chk (0 ≤ t6) <|
    chk (t6 < (t1_1.length : Int)) <|
    bnd (t1_1[t6.toNat]?) fun r2' =>
    bnd (ref2_Together n r1' r2') fun z3' =>
    brO (z3' != 1) (
      next t3 (IntKind.i64.wrap (t6 + 1))) (
      ref2_PassesOf_l12 n t1_0 t1_1 t4 t5 t6 t3 (IntKind.i64.wrap (t6 + 1)) (fun x12' =>
        next x12' (IntKind.i64.wrap (t6 + 1))))) (
    k0 t3)
def ref2_PassesOf_l7 {ρ : Type} (n : Nat) (t1_0 : Int) (t1_1 : List (List Int)) (t4 : Int) (t5 : Int) (t3 : Int) (t6 : Int) (k0 : Int → Option ρ) : Option ρ :=
  iterM (fun (s : Int × Int) nx => ref2_PassesOf_s7 n t1_0 t1_1 t4 t5 s.1 s.2 (fun a0 a1 => nx (a0, a1)) k0) n (t3, t6)
def ref2_PassesOf_s4 {ρ : Type} (n : Nat) (t1_0 : Int) (t1_1 : List (List Int)) (t4 : Int) (t3 : Int) (t5 : Int) (next : Int → Int → Option ρ) (k0 : Int → Option ρ) : Option ρ :=
  brO (decide (t5 < t4)) (
    ref2_PassesOf_l7 n t1_0 t1_1 t4 t5 t3 (IntKind.i64.wrap (t5 + 1)) (fun x13' =>
      next x13' (IntKind.i64.wrap (t5 + 1)))) (
    k0 t3)
def ref2_PassesOf_l4 {ρ : Type} (n : Nat) (t1_0 : Int) (t1_1 : List (List Int)) (t4 : Int) (t3 : Int) (t5 : Int) (k0 : Int → Option ρ) : Option ρ :=
  iterM (fun (s : Int × Int) nx => ref2_PassesOf_s4 n t1_0 t1_1 t4 s.1 s.2 (fun a0 a1 => nx (a0, a1)) k0) n (t3, t5)
def ref2_PassesOf (n : Nat) (toArray0_0 : Int) (toArray0_1 : List (List Int)) : Option (Int) :=
  ref2_PassesOf_l4 n toArray0_0 toArray0_1 (toArray0_1.length : Int) 0 0 (fun x14' =>
    some x14')
def law2_TriplePasses (n : Nat) (d0_0 : Int) (d0_1 : List (List Int)) : Option (Bool) :=
  bnd (ref2_TripleFault n d0_0 d0_1) fun z1' =>
  bnd (triple_Passes n d0_0 d0_1) fun z2' =>
  brO (z1' != 0) (
    brO (z2'.2 == z1') (
      some (z2'.1 == 0)) (
      some false)) (
    bnd (ref2_PassesOf n d0_0 d0_1) fun z3' =>
    brO (z2'.2 == 0) (
      some (z2'.1 == z3')) (
      some false))
end Go.Gm
