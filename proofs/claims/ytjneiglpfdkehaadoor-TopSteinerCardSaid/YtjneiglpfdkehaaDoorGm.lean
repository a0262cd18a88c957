/-
  Models of the functions, printed by program (gen.py) from the functions' code.
  Conditions: none; definitions alone.
-/
import Derived.Test.YtjneiglpfdkehaaDoorG3
import Derived.Test.YtjneiglpfdkehaaDoorG5
namespace Go.Gm
open Go Go.Gx
def field_isPrime_s2 {ρ : Type} (_n : Nat) (p0 : Int) (t5 : List Int) (t6 : Int) (next : Int → Option ρ) (k0 : Option ρ) (k1 : Option ρ) : Option ρ :=
  brO (decide (t6 < 18)) (
    chk (t5.length = 18 * 1) <|
    chk (0 ≤ t6) <|
    chk (t6 < 18) <|
    chk (1 = 1) <|
    bnd (t5[t6.toNat]?) fun b1' =>
    brO (p0 == b1') (
      k0) (
      next (IntKind.i64.wrap (t6 + 1)))) (
    k1)
def field_isPrime_l2 {ρ : Type} (n : Nat) (p0 : Int) (t5 : List Int) (t6 : Int) (k0 : Option ρ) (k1 : Option ρ) : Option ρ :=
  iterM (fun (s : Int) nx => field_isPrime_s2 n p0 t5 s nx k0 k1) n t6
def field_isPrime (n : Nat) (p0 : Int) : Option (Bool) :=
  chk (([2, 3, 5, 7, 11, 13, 17, 19, 23, 29, 31, 37, 41, 43, 47, 53, 59, 61]).length = 18) <|
  field_isPrime_l2 n p0 ([2, 3, 5, 7, 11, 13, 17, 19, 23, 29, 31, 37, 41, 43, 47, 53, 59, 61]) 0 (
    some true) (
    some false)
def field_order_s5 {ρ : Type} (_n : Nat) (prime0 : Int) (t18 : Int) (q6 : Int) (t19 : Int) (next : Int → Int → Option ρ) (k0 : Option ρ) (k1 : Int → Option ρ) : Option ρ :=
  brO (decide (t19 < t18)) (
    brO (decide ((IntKind.i64.wrap (q6 * prime0)) > 64)) (
      k0) (
      next (IntKind.i64.wrap (q6 * prime0)) (IntKind.i64.wrap (t19 + 1)))) (
    k1 q6)
def field_order_l5 {ρ : Type} (n : Nat) (prime0 : Int) (t18 : Int) (q6 : Int) (t19 : Int) (k0 : Option ρ) (k1 : Int → Option ρ) : Option ρ :=
  iterM (fun (s : Int × Int) nx => field_order_s5 n prime0 t18 s.1 s.2 (fun a0 a1 => nx (a0, a1)) k0 k1) n (q6, t19)
def field_order (n : Nat) (prime0 : Int) (degree1 : Int) : Option (Int × Bool) :=
  bnd (field_isPrime n prime0) fun z1' =>
  brO (!z1') (
    some (0, false)) (
    brO (decide (degree1 < 1)) (
      some (0, false)) (
      brO (decide (degree1 > 6)) (
        some (0, false)) (
        field_order_l5 n prime0 degree1 1 0 (
          some (0, false)) (fun x2' =>
          some (x2', true)))))
def field_digits_s3 {ρ : Type} (_n : Nat) (p0 : Int) (_t4 : List Int) (n_1 : Int) (out5 : List Int) (i6 : Int) (next : Int → List Int → Int → Option ρ) (k0 : List Int → Option ρ) : Option ρ :=
  brO (decide (n_1 > 0)) (
    if p0 = 0 then none else
    if p0 = 0 then none else
    chk (0 ≤ i6) <|
    chk (i6 < 7) <|
    chk ((0 + (i6.toNat * 1)) < out5.length) <|
    next (IntKind.i64.wrap (n_1.tdiv p0)) (out5.set (0 + (i6.toNat * 1)) (n_1.tmod p0)) (IntKind.i64.wrap (i6 + 1))) (
    k0 out5)
def field_digits_l3 {ρ : Type} (n : Nat) (p0 : Int) (t4 : List Int) (n_1 : Int) (out5 : List Int) (i6 : Int) (k0 : List Int → Option ρ) : Option ρ :=
  iterM (fun (s : Int × (List Int) × Int) nx => field_digits_s3 n p0 t4 s.1 s.2.1 s.2.2 (fun a0 a1 a2 => nx (a0, a1, a2)) k0) n (n_1, out5, i6)
def field_digits (n : Nat) (p0 : Int) (n_1 : Int) : Option (List Int) :=
  field_digits_l3 n p0 (List.replicate 7 (0 : Int)) n_1 (List.replicate 7 (0 : Int)) 0 (fun x1' =>
    chk (0 = 0) <|
    chk (x1'.length = 7) <|
    chk (0 = 0) <|
    chk (x1'.length = 7) <|
    chk ((List.replicate 7 (0 : Int)).length = 7) <|
    chk ((x1'.length == 7) = true) <|
    some x1')
def field_divides_s6 {ρ : Type} (_n : Nat) (p0 : Int) (degree2 : Int) (d6 : List Int) (top11 : Int) (times12 : Int) (t25 : Int) (a8 : List Int) (t26 : Int) (next : List Int → Int → Option ρ) (k0 : List Int → Option ρ) : Option ρ :=
  brO (decide (t26 < t25)) (
    chk (0 ≤ (IntKind.i64.wrap ((IntKind.i64.wrap (top11 - degree2)) + t26))) <|
    chk ((IntKind.i64.wrap ((IntKind.i64.wrap (top11 - degree2)) + t26)) < 7) <|
    bnd (a8[(0 + ((IntKind.i64.wrap ((IntKind.i64.wrap (top11 - degree2)) + t26)).toNat * 1))]?) fun b2' =>
    chk (0 ≤ t26) <|
    chk (t26 < 7) <|
    bnd (d6[(0 + (t26.toNat * 1))]?) fun b3' =>
    if p0 = 0 then none else
    chk (0 ≤ (IntKind.i64.wrap ((IntKind.i64.wrap (top11 - degree2)) + t26))) <|
    chk ((IntKind.i64.wrap ((IntKind.i64.wrap (top11 - degree2)) + t26)) < 7) <|
    chk ((0 + ((IntKind.i64.wrap ((IntKind.i64.wrap (top11 - degree2)) + t26)).toNat * 1)) < a8.length) <|
    next (a8.set (0 + ((IntKind.i64.wrap ((IntKind.i64.wrap (top11 - degree2)) + t26)).toNat * 1)) ((IntKind.i64.wrap (b2' + (IntKind.i64.wrap ((IntKind.i64.wrap (p0 - times12)) * b3')))).tmod p0)) (IntKind.i64.wrap (t26 + 1))) (
    k0 a8)
def field_divides_l6 {ρ : Type} (n : Nat) (p0 : Int) (degree2 : Int) (d6 : List Int) (top11 : Int) (times12 : Int) (t25 : Int) (a8 : List Int) (t26 : Int) (k0 : List Int → Option ρ) : Option ρ :=
  iterM (fun (s : (List Int) × Int) nx => field_divides_s6 n p0 degree2 d6 top11 times12 t25 s.1 s.2 (fun a0 a1 => nx (a0, a1)) k0) n (a8, t26)
def field_divides_s2 {ρ : Type} (n : Nat) (p0 : Int) (degree2 : Int) (d6 : List Int) (a8 : List Int) (top11 : Int) (next : List Int → Int → Option ρ) (k0 : List Int → Option ρ) : Option ρ :=
  brO (decide (top11 ≥ degree2)) (
    chk (0 ≤ top11) <|
    chk (top11 < 7) <|
    bnd (a8[(0 + (top11.toNat * 1))]?) fun b1' =>
    field_divides_l6 n p0 degree2 d6 top11 b1' (IntKind.i64.wrap (degree2 + 1)) a8 0 (fun x4' =>
      next x4' (IntKind.i64.wrap (top11 - 1)))) (
    k0 a8)
def field_divides_l2 {ρ : Type} (n : Nat) (p0 : Int) (degree2 : Int) (d6 : List Int) (a8 : List Int) (top11 : Int) (k0 : List Int → Option ρ) : Option ρ :=
  iterM (fun (s : (List Int) × Int) nx => field_divides_s2 n p0 degree2 d6 s.1 s.2 (fun a0 a1 => nx (a0, a1)) k0) n (a8, top11)
def field_divides (n : Nat) (p0 : Int) (d1 : List Int) (degree2 : Int) (a3 : List Int) (k_4 : Int) : Option (Bool) :=
  field_divides_l2 n p0 degree2 d1 a3 k_4 (fun x5' =>
    chk (0 = 0) <|
    chk (x5'.length = 7) <|
    chk (x5'.length = 7) <|
    chk ((List.replicate 7 (0 : Int)).length = 7) <|
    some (x5' == (List.replicate 7 (0 : Int))))
def field_irreducible_s7 {ρ : Type} (_n : Nat) (p0 : Int) (_k_1 : Int) (_low5 : List Int) (_degree7 : Int) (t19 : Int) (many8 : Int) (t20 : Int) (next : Int → Int → Option ρ) (k0 : Int → Option ρ) : Option ρ :=
  brO (decide (t20 < t19)) (
    next (IntKind.i64.wrap (many8 * p0)) (IntKind.i64.wrap (t20 + 1))) (
    k0 many8)
def field_irreducible_l7 {ρ : Type} (n : Nat) (p0 : Int) (k_1 : Int) (low5 : List Int) (degree7 : Int) (t19 : Int) (many8 : Int) (t20 : Int) (k0 : Int → Option ρ) : Option ρ :=
  iterM (fun (s : Int × Int) nx => field_irreducible_s7 n p0 k_1 low5 degree7 t19 s.1 s.2 (fun a0 a1 => nx (a0, a1)) k0) n (many8, t20)
def field_irreducible_s11 {ρ : Type} (n : Nat) (p0 : Int) (k_1 : Int) (low5 : List Int) (degree7 : Int) (t26 : Int) (t27 : Int) (next : Int → Option ρ) (k0 : Option ρ) (k1 : Option ρ) : Option ρ :=
  brO (decide (t27 < t26)) (
    bnd (field_digits n p0 t27) fun z2' =>
    chk (0 = 0) <|
    chk (z2'.length = 7) <|
    chk ((List.replicate 7 (0 : Int)).length = 7) <|
    chk (0 ≤ degree7) <|
    chk (degree7 < 7) <|
    chk ((0 + (degree7.toNat * 1)) < z2'.length) <|
    chk (0 = 0) <|
    chk ((z2'.set (0 + (degree7.toNat * 1)) 1).length = 7) <|
    chk (0 = 0) <|
    chk (low5.length = 7) <|
    bnd (field_divides n p0 (z2'.set (0 + (degree7.toNat * 1)) 1) degree7 low5 k_1) fun z3' =>
    brO z3' (
      k0) (
      next (IntKind.i64.wrap (t27 + 1)))) (
    k1)
def field_irreducible_l11 {ρ : Type} (n : Nat) (p0 : Int) (k_1 : Int) (low5 : List Int) (degree7 : Int) (t26 : Int) (t27 : Int) (k0 : Option ρ) (k1 : Option ρ) : Option ρ :=
  iterM (fun (s : Int) nx => field_irreducible_s11 n p0 k_1 low5 degree7 t26 s nx k0 k1) n t27
def field_irreducible_s3 {ρ : Type} (n : Nat) (p0 : Int) (k_1 : Int) (low5 : List Int) (degree7 : Int) (next : Int → Option ρ) (k0 : Option ρ) (k1 : Option ρ) : Option ρ :=
  brO (decide ((IntKind.i64.wrap (2 * degree7)) ≤ k_1)) (
    field_irreducible_l7 n p0 k_1 low5 degree7 degree7 1 0 (fun x1' =>
      field_irreducible_l11 n p0 k_1 low5 degree7 x1' 0 (
        k0) (
        next (IntKind.i64.wrap (degree7 + 1))))) (
    k1)
def field_irreducible_l3 {ρ : Type} (n : Nat) (p0 : Int) (k_1 : Int) (low5 : List Int) (degree7 : Int) (k0 : Option ρ) (k1 : Option ρ) : Option ρ :=
  iterM (fun (s : Int) nx => field_irreducible_s3 n p0 k_1 low5 s nx k0 k1) n degree7
def field_irreducible (n : Nat) (p0 : Int) (k_1 : Int) (low2 : List Int) : Option (Bool) :=
  chk (0 ≤ k_1) <|
  chk (k_1 < 7) <|
  chk ((0 + (k_1.toNat * 1)) < low2.length) <|
  field_irreducible_l3 n p0 k_1 (low2.set (0 + (k_1.toNat * 1)) 1) 1 (
    some false) (
    some true)
def field_Least_s5 {ρ : Type} (n : Nat) (prime0 : Int) (degree1 : Int) (_t4_0 : Int) (_t4_1 : Int) (_t4_2 : List Int) (t19 : Int) (t20 : Int) (next : Int → Option ρ) (k0 : List Int → Option ρ) (k1 : Option ρ) : Option ρ :=
  brO (decide (t20 < t19)) (
    bnd (field_digits n prime0 t20) fun z2' =>
    chk (0 = 0) <|
    chk (z2'.length = 7) <|
    chk ((List.replicate 7 (0 : Int)).length = 7) <|
    chk (0 = 0) <|
    chk (z2'.length = 7) <|
    bnd (field_irreducible n prime0 degree1 z2') fun z3' =>
    brO z3' (
      chk (0 = 0) <|
      chk (z2'.length = 7) <|
      chk (0 ≤ (0 : Int)) <|
      chk ((0 : Int) ≤ degree1) <|
      chk (degree1 ≤ (z2'.length : Int)) <|
      chk (3 = 3) <|
      chk (([] ++ (z2'.take degree1.toNat)).length < 2 ^ 40) <|
      k0 ([] ++ (z2'.take degree1.toNat))) (
      next (IntKind.i64.wrap (t20 + 1)))) (
    k1)
def field_Least_l5 {ρ : Type} (n : Nat) (prime0 : Int) (degree1 : Int) (t4_0 : Int) (t4_1 : Int) (t4_2 : List Int) (t19 : Int) (t20 : Int) (k0 : List Int → Option ρ) (k1 : Option ρ) : Option ρ :=
  iterM (fun (s : Int) nx => field_Least_s5 n prime0 degree1 t4_0 t4_1 t4_2 t19 s nx k0 k1) n t20
def field_Least (n : Nat) (prime0 : Int) (degree1 : Int) : Option (Int × Int × (List Int) × Int) :=
  bnd (field_order n prime0 degree1) fun z1' =>
  brO (!z1'.2) (
    some (0, 0, [], 1)) (
    field_Least_l5 n prime0 degree1 0 0 ([]) z1'.1 0 (fun x4' =>
      some (prime0, degree1, x4', 0)) (
      some (0, 0, [], 4)))
def field_open_s8 {ρ : Type} (_n : Nat) (f1_0 : Int) (_f1_1 : Int) (_f1_2 : List Int) (_t2_0 : Int) (_t2_1 : Int) (_t2_2 : List Int) (_t2_3 : Int) (_q4 : Int) (t28 : List Int) (t29 : Int) (low6 : List Int) (t30 : Int) (next : List Int → Int → Option ρ) (k0 : List Int → Option ρ) (k1 : List Int → Option ρ) : Option ρ :=
  brO (decide (t30 < t29)) (
    chk (0 ≤ t30) <|
    chk (t30 < (t28.length : Int)) <|
    bnd (t28[t30.toNat]?) fun b2' =>
    brO (decide (b2' < 0)) (
      k0 ([])) (
      brO (decide (b2' ≥ f1_0)) (
        k0 ([])) (
        chk (0 ≤ t30) <|
        chk (t30 < 7) <|
        chk ((0 + (t30.toNat * 1)) < low6.length) <|
        next (low6.set (0 + (t30.toNat * 1)) b2') (IntKind.i64.wrap (t30 + 1))))) (
    k1 low6)
def field_open_l8 {ρ : Type} (n : Nat) (f1_0 : Int) (f1_1 : Int) (f1_2 : List Int) (t2_0 : Int) (t2_1 : Int) (t2_2 : List Int) (t2_3 : Int) (q4 : Int) (t28 : List Int) (t29 : Int) (low6 : List Int) (t30 : Int) (k0 : List Int → Option ρ) (k1 : List Int → Option ρ) : Option ρ :=
  iterM (fun (s : (List Int) × Int) nx => field_open_s8 n f1_0 f1_1 f1_2 t2_0 t2_1 t2_2 t2_3 q4 t28 t29 s.1 s.2 (fun a0 a1 => nx (a0, a1)) k0 k1) n (low6, t30)
def field_open (n : Nat) (f0_0 : Int) (f0_1 : Int) (f0_2 : List Int) : Option (Int × Int × (List Int) × Int × Int) :=
  bnd (field_order n f0_0 f0_1) fun z1' =>
  brO (!z1'.2) (
    some (0, 0, [], 0, 1)) (
    brO ((f0_2.length : Int) != f0_1) (
      some (0, 0, [], 0, 2)) (
      field_open_l8 n f0_0 f0_1 f0_2 0 0 ([]) 0 z1'.1 f0_2 (f0_2.length : Int) (List.replicate 7 (0 : Int)) 0 (fun x3' =>
        some (0, 0, x3', 0, 1)) (fun x4' =>
        chk (0 = 0) <|
        chk (x4'.length = 7) <|
        bnd (field_irreducible n f0_0 f0_1 x4') fun z5' =>
        brO (!z5') (
          some (0, 0, [], 0, 4)) (
          some (f0_0, f0_1, f0_2, z1'.1, 0)))))
def field_room_shift_s4 {ρ : Type} (_n : Nat) (r2_0 : Int) (_r2_1 : Int) (r2_2 : List Int) (_r2_3 : Int) (a3 : List Int) (_t4 : List Int) (top6 : Int) (t16 : Int) (out5 : List Int) (t17 : Int) (next : List Int → Int → Option ρ) (k0 : List Int → Option ρ) : Option ρ :=
  brO (decide (t17 < t16)) (
    brO (decide (t17 > 0)) (
      chk (0 ≤ (IntKind.i64.wrap (t17 - 1))) <|
      chk ((IntKind.i64.wrap (t17 - 1)) < 7) <|
      bnd (a3[(0 + ((IntKind.i64.wrap (t17 - 1)).toNat * 1))]?) fun b2' =>
      chk (0 ≤ t17) <|
      chk (t17 < 7) <|
      chk ((0 + (t17.toNat * 1)) < out5.length) <|
      chk (0 ≤ t17) <|
      chk (t17 < 7) <|
      bnd ((out5.set (0 + (t17.toNat * 1)) b2')[(0 + (t17.toNat * 1))]?) fun b3' =>
      chk (0 ≤ t17) <|
      chk (t17 < (r2_2.length : Int)) <|
      bnd (r2_2[t17.toNat]?) fun b4' =>
      if r2_0 = 0 then none else
      chk (0 ≤ t17) <|
      chk (t17 < 7) <|
      chk ((0 + (t17.toNat * 1)) < (out5.set (0 + (t17.toNat * 1)) b2').length) <|
      next ((out5.set (0 + (t17.toNat * 1)) b2').set (0 + (t17.toNat * 1)) ((IntKind.i64.wrap (b3' + (IntKind.i64.wrap ((IntKind.i64.wrap (r2_0 - top6)) * b4')))).tmod r2_0)) (IntKind.i64.wrap (t17 + 1))) (
      chk (0 ≤ t17) <|
      chk (t17 < 7) <|
      bnd (out5[(0 + (t17.toNat * 1))]?) fun b5' =>
      chk (0 ≤ t17) <|
      chk (t17 < (r2_2.length : Int)) <|
      bnd (r2_2[t17.toNat]?) fun b6' =>
      if r2_0 = 0 then none else
      chk (0 ≤ t17) <|
      chk (t17 < 7) <|
      chk ((0 + (t17.toNat * 1)) < out5.length) <|
      next (out5.set (0 + (t17.toNat * 1)) ((IntKind.i64.wrap (b5' + (IntKind.i64.wrap ((IntKind.i64.wrap (r2_0 - top6)) * b6')))).tmod r2_0)) (IntKind.i64.wrap (t17 + 1)))) (
    k0 out5)
def field_room_shift_l4 {ρ : Type} (n : Nat) (r2_0 : Int) (r2_1 : Int) (r2_2 : List Int) (r2_3 : Int) (a3 : List Int) (t4 : List Int) (top6 : Int) (t16 : Int) (out5 : List Int) (t17 : Int) (k0 : List Int → Option ρ) : Option ρ :=
  iterM (fun (s : (List Int) × Int) nx => field_room_shift_s4 n r2_0 r2_1 r2_2 r2_3 a3 t4 top6 t16 s.1 s.2 (fun a0 a1 => nx (a0, a1)) k0) n (out5, t17)
def field_room_shift (n : Nat) (r0_0 : Int) (r0_1 : Int) (r0_2 : List Int) (r0_3 : Int) (a1 : List Int) : Option (List Int) :=
  chk (0 ≤ (IntKind.i64.wrap (r0_1 - 1))) <|
  chk ((IntKind.i64.wrap (r0_1 - 1)) < 7) <|
  bnd (a1[(0 + ((IntKind.i64.wrap (r0_1 - 1)).toNat * 1))]?) fun b1' =>
  field_room_shift_l4 n r0_0 r0_1 r0_2 r0_3 a1 (List.replicate 7 (0 : Int)) b1' r0_1 (List.replicate 7 (0 : Int)) 0 (fun x7' =>
    chk (0 = 0) <|
    chk (x7'.length = 7) <|
    chk (0 = 0) <|
    chk (x7'.length = 7) <|
    chk ((List.replicate 7 (0 : Int)).length = 7) <|
    chk ((x7'.length == 7) = true) <|
    some x7')
def field_room_number_s3 {ρ : Type} (_n : Nat) (r2_0 : Int) (_r2_1 : Int) (_r2_2 : List Int) (_r2_3 : Int) (a3 : List Int) (n_5 : Int) (i6 : Int) (next : Int → Int → Option ρ) (k0 : Int → Option ρ) : Option ρ :=
  brO (decide (i6 ≥ 0)) (
    chk (0 ≤ i6) <|
    chk (i6 < 7) <|
    bnd (a3[(0 + (i6.toNat * 1))]?) fun b1' =>
    next (IntKind.i64.wrap ((IntKind.i64.wrap (n_5 * r2_0)) + b1')) (IntKind.i64.wrap (i6 - 1))) (
    k0 n_5)
def field_room_number_l3 {ρ : Type} (n : Nat) (r2_0 : Int) (r2_1 : Int) (r2_2 : List Int) (r2_3 : Int) (a3 : List Int) (n_5 : Int) (i6 : Int) (k0 : Int → Option ρ) : Option ρ :=
  iterM (fun (s : Int × Int) nx => field_room_number_s3 n r2_0 r2_1 r2_2 r2_3 a3 s.1 s.2 (fun a0 a1 => nx (a0, a1)) k0) n (n_5, i6)
def field_room_number (n : Nat) (r0_0 : Int) (r0_1 : Int) (r0_2 : List Int) (r0_3 : Int) (a1 : List Int) : Option (Int) :=
  field_room_number_l3 n r0_0 r0_1 r0_2 r0_3 a1 0 (IntKind.i64.wrap (r0_1 - 1)) (fun x2' =>
    some x2')
def field_room_mul_g1 {ρ : Type} (n : Nat) (r3_0 : Int) (_r3_1 : Int) (_r3_2 : List Int) (_r3_3 : Int) (a1 : Int) (b2 : Int) (k0 : List Int → List Int → Option ρ) : Option ρ :=
  bnd (field_digits n r3_0 a1) fun z1' =>
  bnd (field_digits n r3_0 b2) fun z2' =>
  chk (0 = 0) <|
  chk (z1'.length = 7) <|
  chk ((List.replicate 7 (0 : Int)).length = 7) <|
  chk (0 = 0) <|
  chk (z2'.length = 7) <|
  chk ((List.replicate 7 (0 : Int)).length = 7) <|
  k0 z1' z2'
def field_room_mul_s7 {ρ : Type} (_n : Nat) (r3_0 : Int) (_r3_1 : Int) (_r3_2 : List Int) (_r3_3 : Int) (x7 : List Int) (y8 : List Int) (i10 : Int) (_t24 : Int) (_t25 : Int) (t30 : Int) (out9 : List Int) (t31 : Int) (next : List Int → Int → Option ρ) (k0 : List Int → Option ρ) : Option ρ :=
  brO (decide (t31 < t30)) (
    chk (0 ≤ t31) <|
    chk (t31 < 7) <|
    bnd (out9[(0 + (t31.toNat * 1))]?) fun b5' =>
    chk (0 ≤ t31) <|
    chk (t31 < 7) <|
    bnd (x7[(0 + (t31.toNat * 1))]?) fun b6' =>
    chk (0 ≤ i10) <|
    chk (i10 < 7) <|
    bnd (y8[(0 + (i10.toNat * 1))]?) fun b7' =>
    if r3_0 = 0 then none else
    chk (0 ≤ t31) <|
    chk (t31 < 7) <|
    chk ((0 + (t31.toNat * 1)) < out9.length) <|
    next (out9.set (0 + (t31.toNat * 1)) ((IntKind.i64.wrap (b5' + (IntKind.i64.wrap (b6' * b7')))).tmod r3_0)) (IntKind.i64.wrap (t31 + 1))) (
    k0 out9)
def field_room_mul_l7 {ρ : Type} (n : Nat) (r3_0 : Int) (r3_1 : Int) (r3_2 : List Int) (r3_3 : Int) (x7 : List Int) (y8 : List Int) (i10 : Int) (t24 : Int) (t25 : Int) (t30 : Int) (out9 : List Int) (t31 : Int) (k0 : List Int → Option ρ) : Option ρ :=
  iterM (fun (s : (List Int) × Int) nx => field_room_mul_s7 n r3_0 r3_1 r3_2 r3_3 x7 y8 i10 t24 t25 t30 s.1 s.2 (fun a0 a1 => nx (a0, a1)) k0) n (out9, t31)
def field_room_mul_s4 {ρ : Type} (n : Nat) (r3_0 : Int) (r3_1 : Int) (r3_2 : List Int) (r3_3 : Int) (y8 : List Int) (t24 : Int) (x7 : List Int) (out9 : List Int) (t25 : Int) (next : List Int → List Int → Int → Option ρ) (k0 : List Int → Option ρ) : Option ρ :=
  brO (decide (t25 < t24)) (
    field_room_mul_l7 n r3_0 r3_1 r3_2 r3_3 x7 y8 t25 t24 t25 r3_1 out9 0 (fun x8' =>
      chk (0 = 0) <|
      chk (x7.length = 7) <|
      bnd (field_room_shift n r3_0 r3_1 r3_2 r3_3 x7) fun z9' =>
      chk (0 = 0) <|
      chk (z9'.length = 7) <|
      chk (x7.length = 7) <|
      next z9' x8' (IntKind.i64.wrap (t25 + 1)))) (
    k0 out9)
def field_room_mul_l4 {ρ : Type} (n : Nat) (r3_0 : Int) (r3_1 : Int) (r3_2 : List Int) (r3_3 : Int) (y8 : List Int) (t24 : Int) (x7 : List Int) (out9 : List Int) (t25 : Int) (k0 : List Int → Option ρ) : Option ρ :=
  iterM (fun (s : (List Int) × (List Int) × Int) nx => field_room_mul_s4 n r3_0 r3_1 r3_2 r3_3 y8 t24 s.1 s.2.1 s.2.2 (fun a0 a1 a2 => nx (a0, a1, a2)) k0) n (x7, out9, t25)
def field_room_mul (n : Nat) (r0_0 : Int) (r0_1 : Int) (r0_2 : List Int) (r0_3 : Int) (a1 : Int) (b2 : Int) : Option (Int) :=
  field_room_mul_g1 n r0_0 r0_1 r0_2 r0_3 a1 b2 (fun x3' x4' =>
    field_room_mul_l4 n r0_0 r0_1 r0_2 r0_3 x4' r0_1 x3' (List.replicate 7 (0 : Int)) 0 (fun x10' =>
      chk (0 = 0) <|
      chk (x10'.length = 7) <|
      bnd (field_room_number n r0_0 r0_1 r0_2 r0_3 x10') fun z11' =>
      some z11'))
def field_room_root_s5 {ρ : Type} (n : Nat) (r1_0 : Int) (r1_1 : Int) (r1_2 : List Int) (r1_3 : Int) (a3 : Int) (many4 : Int) (b5 : Int) (next : Int → Int → Option ρ) (k0 : Int → Option ρ) : Option ρ :=
  brO (b5 != 1) (
    brO (b5 != 0) (
      bnd (field_room_mul n r1_0 r1_1 r1_2 r1_3 b5 a3) fun z1' =>
      next (IntKind.i64.wrap (many4 + 1)) z1') (
      k0 many4)) (
    k0 many4)
def field_room_root_l5 {ρ : Type} (n : Nat) (r1_0 : Int) (r1_1 : Int) (r1_2 : List Int) (r1_3 : Int) (a3 : Int) (many4 : Int) (b5 : Int) (k0 : Int → Option ρ) : Option ρ :=
  iterM (fun (s : Int × Int) nx => field_room_root_s5 n r1_0 r1_1 r1_2 r1_3 a3 s.1 s.2 (fun a0 a1 => nx (a0, a1)) k0) n (many4, b5)
def field_room_root_s3 {ρ : Type} (n : Nat) (r1_0 : Int) (r1_1 : Int) (r1_2 : List Int) (r1_3 : Int) (a3 : Int) (next : Int → Option ρ) (k0 : Int → Option ρ) : Option ρ :=
  field_room_root_l5 n r1_0 r1_1 r1_2 r1_3 a3 1 a3 (fun x2' =>
    brO (x2' == (IntKind.i64.wrap (r1_3 - 1))) (
      k0 a3) (
      next (IntKind.i64.wrap (a3 + 1))))
def field_room_root_l3 {ρ : Type} (n : Nat) (r1_0 : Int) (r1_1 : Int) (r1_2 : List Int) (r1_3 : Int) (a3 : Int) (k0 : Int → Option ρ) : Option ρ :=
  iterM (fun (s : Int) nx => field_room_root_s3 n r1_0 r1_1 r1_2 r1_3 s nx k0) n a3
def field_room_root (n : Nat) (r0_0 : Int) (r0_1 : Int) (r0_2 : List Int) (r0_3 : Int) : Option (Int) :=
  field_room_root_l3 n r0_0 r0_1 r0_2 r0_3 1 (fun x3' =>
    some x3')
def field_Root (n : Nat) (f0_0 : Int) (f0_1 : Int) (f0_2 : List Int) : Option (Int × Int) :=
  bnd (field_open n f0_0 f0_1 f0_2) fun z1' =>
  brO (z1'.2.2.2.2 != 0) (
    some (0, z1'.2.2.2.2)) (
    bnd (field_room_root n z1'.1 z1'.2.1 z1'.2.2.1 z1'.2.2.2.1) fun z2' =>
    some (z2', 0))
def field_with_s5 {ρ : Type} (_n : Nat) (_t4_0 : Int) (_t4_1 : Int) (_t4_2 : List Int) (_t4_3 : Int) (_r6_0 : Int) (_r6_1 : Int) (_r6_2 : List Int) (r6_3 : Int) (t19 : List Int) (t20 : Int) (t21 : Int) (next : Int → Option ρ) (k0 : List Int → Option ρ) (k1 : Option ρ) : Option ρ :=
  brO (decide (t21 < t20)) (
    chk (0 ≤ t21) <|
    chk (t21 < (t19.length : Int)) <|
    bnd (t19[t21.toNat]?) fun b2' =>
    brO (decide (b2' < 0)) (
      k0 ([])) (
      brO (decide (b2' ≥ r6_3)) (
        k0 ([])) (
        next (IntKind.i64.wrap (t21 + 1))))) (
    k1)
def field_with_l5 {ρ : Type} (n : Nat) (t4_0 : Int) (t4_1 : Int) (t4_2 : List Int) (t4_3 : Int) (r6_0 : Int) (r6_1 : Int) (r6_2 : List Int) (r6_3 : Int) (t19 : List Int) (t20 : Int) (t21 : Int) (k0 : List Int → Option ρ) (k1 : Option ρ) : Option ρ :=
  iterM (fun (s : Int) nx => field_with_s5 n t4_0 t4_1 t4_2 t4_3 r6_0 r6_1 r6_2 r6_3 t19 t20 s nx k0 k1) n t21
def field_with (n : Nat) (f0_0 : Int) (f0_1 : Int) (f0_2 : List Int) (elements1 : List Int) : Option (Int × Int × (List Int) × Int × Int) :=
  bnd (field_open n f0_0 f0_1 f0_2) fun z1' =>
  brO (z1'.2.2.2.2 != 0) (
    some (0, 0, [], 0, z1'.2.2.2.2)) (
    field_with_l5 n 0 0 ([]) 0 z1'.1 z1'.2.1 z1'.2.2.1 z1'.2.2.2.1 elements1 (elements1.length : Int) 0 (fun x3' =>
      some (0, 0, x3', 0, 1)) (
      some (z1'.1, z1'.2.1, z1'.2.2.1, z1'.2.2.2.1, 0)))
def field_room_add_g1 {ρ : Type} (n : Nat) (r3_0 : Int) (_r3_1 : Int) (_r3_2 : List Int) (_r3_3 : Int) (a1 : Int) (b2 : Int) (k0 : List Int → List Int → Option ρ) : Option ρ :=
  bnd (field_digits n r3_0 a1) fun z1' =>
  bnd (field_digits n r3_0 b2) fun z2' =>
  chk (0 = 0) <|
  chk (z1'.length = 7) <|
  chk ((List.replicate 7 (0 : Int)).length = 7) <|
  chk (0 = 0) <|
  chk (z2'.length = 7) <|
  chk ((List.replicate 7 (0 : Int)).length = 7) <|
  k0 z1' z2'
def field_room_add_s3 {ρ : Type} (_n : Nat) (r3_0 : Int) (_r3_1 : Int) (_r3_2 : List Int) (_r3_3 : Int) (y8 : List Int) (x7 : List Int) (t20 : Int) (next : List Int → Int → Option ρ) (k0 : List Int → Option ρ) : Option ρ :=
  brO (decide (t20 < 7)) (
    chk (0 ≤ t20) <|
    chk (t20 < 7) <|
    bnd (x7[(0 + (t20.toNat * 1))]?) fun b5' =>
    chk (0 ≤ t20) <|
    chk (t20 < 7) <|
    bnd (y8[(0 + (t20.toNat * 1))]?) fun b6' =>
    if r3_0 = 0 then none else
    chk (0 ≤ t20) <|
    chk (t20 < 7) <|
    chk ((0 + (t20.toNat * 1)) < x7.length) <|
    next (x7.set (0 + (t20.toNat * 1)) ((IntKind.i64.wrap (b5' + b6')).tmod r3_0)) (IntKind.i64.wrap (t20 + 1))) (
    k0 x7)
def field_room_add_l3 {ρ : Type} (n : Nat) (r3_0 : Int) (r3_1 : Int) (r3_2 : List Int) (r3_3 : Int) (y8 : List Int) (x7 : List Int) (t20 : Int) (k0 : List Int → Option ρ) : Option ρ :=
  iterM (fun (s : (List Int) × Int) nx => field_room_add_s3 n r3_0 r3_1 r3_2 r3_3 y8 s.1 s.2 (fun a0 a1 => nx (a0, a1)) k0) n (x7, t20)
def field_room_add (n : Nat) (r0_0 : Int) (r0_1 : Int) (r0_2 : List Int) (r0_3 : Int) (a1 : Int) (b2 : Int) : Option (Int) :=
  field_room_add_g1 n r0_0 r0_1 r0_2 r0_3 a1 b2 (fun x3' x4' =>
    field_room_add_l3 n r0_0 r0_1 r0_2 r0_3 x4' x3' 0 (fun x7' =>
      chk (0 = 0) <|
      chk (x7'.length = 7) <|
      bnd (field_room_number n r0_0 r0_1 r0_2 r0_3 x7') fun z8' =>
      some z8'))
def field_room_pow_s2 {ρ : Type} (n : Nat) (r3_0 : Int) (r3_1 : Int) (r3_2 : List Int) (r3_3 : Int) (a1 : Int) (n_2 : Int) (out7 : Int) (next : Int → Int → Int → Option ρ) (k0 : Int → Option ρ) : Option ρ :=
  brO (decide (n_2 > 0)) (
    brO ((n_2.tmod 2) == 1) (
      bnd (field_room_mul n r3_0 r3_1 r3_2 r3_3 out7 a1) fun z1' =>
      bnd (field_room_mul n r3_0 r3_1 r3_2 r3_3 a1 a1) fun z2' =>
      next z2' (IntKind.i64.wrap (n_2.tdiv 2)) z1') (
      bnd (field_room_mul n r3_0 r3_1 r3_2 r3_3 a1 a1) fun z3' =>
      next z3' (IntKind.i64.wrap (n_2.tdiv 2)) out7)) (
    k0 out7)
def field_room_pow_l2 {ρ : Type} (n : Nat) (r3_0 : Int) (r3_1 : Int) (r3_2 : List Int) (r3_3 : Int) (a1 : Int) (n_2 : Int) (out7 : Int) (k0 : Int → Option ρ) : Option ρ :=
  iterM (fun (s : Int × Int × Int) nx => field_room_pow_s2 n r3_0 r3_1 r3_2 r3_3 s.1 s.2.1 s.2.2 (fun a0 a1 a2 => nx (a0, a1, a2)) k0) n (a1, n_2, out7)
def field_room_pow (n : Nat) (r0_0 : Int) (r0_1 : Int) (r0_2 : List Int) (r0_3 : Int) (a1 : Int) (n_2 : Int) : Option (Int) :=
  field_room_pow_l2 n r0_0 r0_1 r0_2 r0_3 a1 n_2 1 (fun x4' =>
    some x4')
def field_Trace_s6 {ρ : Type} (n : Nat) (r6_0 : Int) (r6_1 : Int) (r6_2 : List Int) (r6_3 : Int) (t21 : Int) (a1 : Int) (sum8 : Int) (t22 : Int) (next : Int → Int → Int → Option ρ) (k0 : Int → Option ρ) : Option ρ :=
  brO (decide (t22 < t21)) (
    bnd (field_room_add n r6_0 r6_1 r6_2 r6_3 sum8 a1) fun z2' =>
    bnd (field_room_pow n r6_0 r6_1 r6_2 r6_3 a1 r6_0) fun z3' =>
    next z3' z2' (IntKind.i64.wrap (t22 + 1))) (
    k0 sum8)
def field_Trace_l6 {ρ : Type} (n : Nat) (r6_0 : Int) (r6_1 : Int) (r6_2 : List Int) (r6_3 : Int) (t21 : Int) (a1 : Int) (sum8 : Int) (t22 : Int) (k0 : Int → Option ρ) : Option ρ :=
  iterM (fun (s : Int × Int × Int) nx => field_Trace_s6 n r6_0 r6_1 r6_2 r6_3 t21 s.1 s.2.1 s.2.2 (fun a0 a1 a2 => nx (a0, a1, a2)) k0) n (a1, sum8, t22)
def field_Trace (n : Nat) (f0_0 : Int) (f0_1 : Int) (f0_2 : List Int) (a1 : Int) : Option (Int × Int) :=
  bnd (field_with n f0_0 f0_1 f0_2 ([a1])) fun z1' =>
  brO (z1'.2.2.2.2 != 0) (
    some (0, z1'.2.2.2.2)) (
    field_Trace_l6 n z1'.1 z1'.2.1 z1'.2.2.1 z1'.2.2.2.1 z1'.2.1 a1 0 0 (fun x4' =>
      some (x4', 0)))
def field_Mul (n : Nat) (f0_0 : Int) (f0_1 : Int) (f0_2 : List Int) (a1 : Int) (b2 : Int) : Option (Int × Int) :=
  bnd (field_with n f0_0 f0_1 f0_2 ([a1, b2])) fun z1' =>
  brO (z1'.2.2.2.2 != 0) (
    some (0, z1'.2.2.2.2)) (
    bnd (field_room_mul n z1'.1 z1'.2.1 z1'.2.2.1 z1'.2.2.2.1 a1 b2) fun z2' =>
    some (z2', 0))
def differ_Singer_s8 {ρ : Type} (_n : Nat) (t1_0 : Int) (_t1_1 : Int) (_t1_2 : List Int) (_t5 : Int) (t28 : Int) (t7 : Int) (t29 : Int) (next : Int → Int → Option ρ) (k0 : Int → Option ρ) : Option ρ :=
  brO (decide (t29 < t28)) (
    next (IntKind.i64.wrap (t7 * t1_0)) (IntKind.i64.wrap (t29 + 1))) (
    k0 t7)
def differ_Singer_l8 {ρ : Type} (n : Nat) (t1_0 : Int) (t1_1 : Int) (t1_2 : List Int) (t5 : Int) (t28 : Int) (t7 : Int) (t29 : Int) (k0 : Int → Option ρ) : Option ρ :=
  iterM (fun (s : Int × Int) nx => differ_Singer_s8 n t1_0 t1_1 t1_2 t5 t28 s.1 s.2 (fun a0 a1 => nx (a0, a1)) k0) n (t7, t29)
def differ_Singer_s16 {ρ : Type} (n : Nat) (t1_0 : Int) (t1_1 : Int) (t1_2 : List Int) (t5 : Int) (t8 : Int) (t9 : List Int) (t10 : Int) (t11 : Int) (next : List Int → Int → Int → Option ρ) (k0 : List Int → Option ρ) : Option ρ :=
  brO (decide (t10 < t8)) (
    bnd (field_Trace n t1_0 t1_1 t1_2 t11) fun z3' =>
    brO (z3'.1 == 0) (
      chk (3 = 3) <|
      chk ((t9 ++ [t10]).length < 2 ^ 40) <|
      bnd (field_Mul n t1_0 t1_1 t1_2 t11 t5) fun z4' =>
      next (t9 ++ [t10]) (IntKind.i64.wrap (t10 + 1)) z4'.1) (
      bnd (field_Mul n t1_0 t1_1 t1_2 t11 t5) fun z5' =>
      next t9 (IntKind.i64.wrap (t10 + 1)) z5'.1)) (
    k0 t9)
def differ_Singer_l16 {ρ : Type} (n : Nat) (t1_0 : Int) (t1_1 : Int) (t1_2 : List Int) (t5 : Int) (t8 : Int) (t9 : List Int) (t10 : Int) (t11 : Int) (k0 : List Int → Option ρ) : Option ρ :=
  iterM (fun (s : (List Int) × Int × Int) nx => differ_Singer_s16 n t1_0 t1_1 t1_2 t5 t8 s.1 s.2.1 s.2.2 (fun a0 a1 a2 => nx (a0, a1, a2)) k0) n (t9, t10, t11)
def differ_Singer (n : Nat) (toArray0_0 : Int) (toArray0_1 : Int) (toArray0_2 : List Int) : Option (Int × (List Int) × Int) :=
  bnd (field_Root n toArray0_0 toArray0_1 toArray0_2) fun z1' =>
  brO (z1'.2 != 0) (
    some (0, [], z1'.2)) (
    brO (decide (toArray0_1 < 3)) (
      some (0, [], 4)) (
      differ_Singer_l8 n toArray0_0 toArray0_1 toArray0_2 z1'.1 toArray0_1 1 0 (fun x2' =>
        if (IntKind.i64.wrap (toArray0_0 - 1)) = 0 then none else
        brO (decide ((IntKind.i64.wrap ((IntKind.i64.wrap (x2' - 1)).tdiv (IntKind.i64.wrap (toArray0_0 - 1)))) > 60)) (
          some (0, [], 3)) (
          differ_Singer_l16 n toArray0_0 toArray0_1 toArray0_2 z1'.1 (IntKind.i64.wrap ((IntKind.i64.wrap (x2' - 1)).tdiv (IntKind.i64.wrap (toArray0_0 - 1)))) ([]) 0 1 (fun x6' =>
            some ((IntKind.i64.wrap ((IntKind.i64.wrap (x2' - 1)).tdiv (IntKind.i64.wrap (toArray0_0 - 1)))), x6', 0))))))
def differ_Check_1 (_n : Nat) (n_0 : Int) (t1 : Int) : Option (Bool) :=
  brO (decide (n_0 < 0)) (
    some true) (
    some (decide (n_0 ≥ t1)))
def slices_IndexFunc_intint__differ_Check_1_s2 {ρ : Type} (n : Nat) (s_0 : List Int) (f1 : Int) (t7 : Int) (t8 : Int) (next : Int → Option ρ) (k0 : Int → Option ρ) (k1 : Option ρ) : Option ρ :=
  brO (decide (t8 < t7)) (
    chk (0 ≤ t8) <|
    chk (t8 < (s_0.length : Int)) <|
    bnd (s_0[t8.toNat]?) fun b1' =>
    bnd (differ_Check_1 n b1' f1) fun z2' =>
    brO z2' (
      k0 t8) (
      next (IntKind.i64.wrap (t8 + 1)))) (
    k1)
def slices_IndexFunc_intint__differ_Check_1_l2 {ρ : Type} (n : Nat) (s_0 : List Int) (f1 : Int) (t7 : Int) (t8 : Int) (k0 : Int → Option ρ) (k1 : Option ρ) : Option ρ :=
  iterM (fun (s : Int) nx => slices_IndexFunc_intint__differ_Check_1_s2 n s_0 f1 t7 s nx k0 k1) n t8
def slices_IndexFunc_intint__differ_Check_1 (n : Nat) (s_0 : List Int) (f1 : Int) : Option (Int) :=
  slices_IndexFunc_intint__differ_Check_1_l2 n s_0 f1 (s_0.length : Int) 0 (fun x3' =>
    some x3') (
    some (-1))
def slices_ContainsFunc_intint__differ_Check_1 (n : Nat) (s_0 : List Int) (f1 : Int) : Option (Bool) :=
  bnd (slices_IndexFunc_intint__differ_Check_1 n s_0 f1) fun z1' =>
  some (decide (z1' ≥ 0))
def differ_Check_s4 {ρ : Type} (_n : Nat) (set1 : List Int) (i5 : Int) (next : Int → Option ρ) (k0 : Option ρ) (k1 : Option ρ) : Option ρ :=
  brO (decide (i5 < (set1.length : Int))) (
    chk (0 ≤ i5) <|
    chk (i5 < (set1.length : Int)) <|
    bnd (set1[i5.toNat]?) fun b2' =>
    chk (0 ≤ (IntKind.i64.wrap (i5 - 1))) <|
    chk ((IntKind.i64.wrap (i5 - 1)) < (set1.length : Int)) <|
    bnd (set1[(IntKind.i64.wrap (i5 - 1)).toNat]?) fun b3' =>
    brO (decide (b2' ≤ b3')) (
      k0) (
      next (IntKind.i64.wrap (i5 + 1)))) (
    k1)
def differ_Check_l4 {ρ : Type} (n : Nat) (set1 : List Int) (i5 : Int) (k0 : Option ρ) (k1 : Option ρ) : Option ρ :=
  iterM (fun (s : Int) nx => differ_Check_s4 n set1 s nx k0 k1) n i5
def differ_Check (n : Nat) (v0 : Int) (set1 : List Int) : Option (Int) :=
  brO (decide (v0 < 1)) (
    some 1) (
    brO (decide (v0 > 60)) (
      some 1) (
      bnd (slices_ContainsFunc_intint__differ_Check_1 n set1 v0) fun z1' =>
      brO z1' (
        some 1) (
        differ_Check_l4 n set1 1 (
          some 2) (
          some 0))))

def differ_changed_s3 {ρ : Type} (_n : Nat) (v0 : Int) (times2 : Int) (more3 : Int) (t12 : List Int) (t13 : Int) (out9 : List Int) (t14 : Int) (next : List Int → Int → Option ρ) (k0 : List Int → Option ρ) : Option ρ :=
  brO (decide (t14 < t13)) (
    chk (0 ≤ t14) <|
    chk (t14 < (t12.length : Int)) <|
    bnd (t12[t14.toNat]?) fun b1' =>
    if v0 = 0 then none else
    chk (3 = 3) <|
    chk ((out9 ++ [((IntKind.i64.wrap ((IntKind.i64.wrap (b1' * times2)) + more3)).tmod v0)]).length < 2 ^ 40) <|
    next (out9 ++ [((IntKind.i64.wrap ((IntKind.i64.wrap (b1' * times2)) + more3)).tmod v0)]) (IntKind.i64.wrap (t14 + 1))) (
    k0 out9)
def differ_changed_l3 {ρ : Type} (n : Nat) (v0 : Int) (times2 : Int) (more3 : Int) (t12 : List Int) (t13 : Int) (out9 : List Int) (t14 : Int) (k0 : List Int → Option ρ) : Option ρ :=
  iterM (fun (s : (List Int) × Int) nx => differ_changed_s3 n v0 times2 more3 t12 t13 s.1 s.2 (fun a0 a1 => nx (a0, a1)) k0) n (out9, t14)
def differ_changed (n : Nat) (v0 : Int) (set1 : List Int) (times2 : Int) (more3 : Int) : Option (List Int) :=
  differ_changed_l3 n v0 times2 more3 set1 (set1.length : Int) ([]) 0 (fun x2' =>
    bnd (sortIm x2') fun z3' =>
    some z3')
def differ_Develop_g10 {ρ : Type} (n : Nat) (i8 : Int) (v0 : Int) (set1 : List Int) (_t4_0 : Int) (_t4_1 : List (List Int)) (_out7_0 : Int) (out7_1 : List (List Int)) (_t21 : Int) (_t22 : Int) (k0 : List (List Int) → Option ρ) : Option ρ :=
  bnd (differ_changed n v0 set1 1 i8) fun z2' =>
  chk (22 = 22) <|
  chk ((out7_1 ++ [z2']).length < 2 ^ 40) <|
  k0 (out7_1 ++ [z2'])
def differ_Develop_s8 {ρ : Type} (n : Nat) (v0 : Int) (set1 : List Int) (t4_0 : Int) (t4_1 : List (List Int)) (out7_0 : Int) (t21 : Int) (out7_1 : List (List Int)) (t22 : Int) (next : List (List Int) → Int → Option ρ) (k0 : List (List Int) → Option ρ) : Option ρ :=
  brO (decide (t22 < t21)) (
    differ_Develop_g10 n t22 v0 set1 t4_0 t4_1 out7_0 out7_1 t21 t22 (fun x3' =>
      next x3' (IntKind.i64.wrap (t22 + 1)))) (
    k0 out7_1)
def differ_Develop_l8 {ρ : Type} (n : Nat) (v0 : Int) (set1 : List Int) (t4_0 : Int) (t4_1 : List (List Int)) (out7_0 : Int) (t21 : Int) (out7_1 : List (List Int)) (t22 : Int) (k0 : List (List Int) → Option ρ) : Option ρ :=
  iterM (fun (s : (List (List Int)) × Int) nx => differ_Develop_s8 n v0 set1 t4_0 t4_1 out7_0 t21 s.1 s.2 (fun a0 a1 => nx (a0, a1)) k0) n (out7_1, t22)
def differ_Develop (n : Nat) (v0 : Int) (set1 : List Int) : Option (Int × (List (List Int)) × Int) :=
  bnd (differ_Check n v0 set1) fun z1' =>
  brO (z1' != 0) (
    some (0, [], z1')) (
    brO (decide (v0 > 40)) (
      some (0, [], 3)) (
      differ_Develop_l8 n v0 set1 0 ([]) v0 v0 ([]) 0 (fun x4' =>
        some (v0, x4', 0))))
def design_Check_1 (_n : Nat) (p0 : Int) (t1_0 : Int) (_t1_1 : List (List Int)) : Option (Bool) :=
  brO (decide (p0 < 0)) (
    some true) (
    some (decide (p0 ≥ t1_0)))
def slices_IndexFunc_intint__design_Check_1_s2 {ρ : Type} (n : Nat) (s_0 : List Int) (f1_0 : Int) (f1_1 : List (List Int)) (t7 : Int) (t8 : Int) (next : Int → Option ρ) (k0 : Int → Option ρ) (k1 : Option ρ) : Option ρ :=
  brO (decide (t8 < t7)) (
    chk (0 ≤ t8) <|
    chk (t8 < (s_0.length : Int)) <|
    bnd (s_0[t8.toNat]?) fun b1' =>
    bnd (design_Check_1 n b1' f1_0 f1_1) fun z2' =>
    brO z2' (
      k0 t8) (
      next (IntKind.i64.wrap (t8 + 1)))) (
    k1)
def slices_IndexFunc_intint__design_Check_1_l2 {ρ : Type} (n : Nat) (s_0 : List Int) (f1_0 : Int) (f1_1 : List (List Int)) (t7 : Int) (t8 : Int) (k0 : Int → Option ρ) (k1 : Option ρ) : Option ρ :=
  iterM (fun (s : Int) nx => slices_IndexFunc_intint__design_Check_1_s2 n s_0 f1_0 f1_1 t7 s nx k0 k1) n t8
def slices_IndexFunc_intint__design_Check_1 (n : Nat) (s_0 : List Int) (f1_0 : Int) (f1_1 : List (List Int)) : Option (Int) :=
  slices_IndexFunc_intint__design_Check_1_l2 n s_0 f1_0 f1_1 (s_0.length : Int) 0 (fun x3' =>
    some x3') (
    some (-1))
def slices_ContainsFunc_intint__design_Check_1 (n : Nat) (s_0 : List Int) (f1_0 : Int) (f1_1 : List (List Int)) : Option (Bool) :=
  bnd (slices_IndexFunc_intint__design_Check_1 n s_0 f1_0 f1_1) fun z1' =>
  some (decide (z1' ≥ 0))
def design_Check_s11 {ρ : Type} (_n : Nat) (_d1_0 : Int) (_d1_1 : List (List Int)) (b4 : List Int) (_t21 : List (List Int)) (_t22 : Int) (_t23 : Int) (i5 : Int) (next : Int → Option ρ) (k0 : Option ρ) (k1 : Option ρ) : Option ρ :=
  brO (decide (i5 < (b4.length : Int))) (
    chk (0 ≤ i5) <|
    chk (i5 < (b4.length : Int)) <|
    bnd (b4[i5.toNat]?) fun b3' =>
    chk (0 ≤ (IntKind.i64.wrap (i5 - 1))) <|
    chk ((IntKind.i64.wrap (i5 - 1)) < (b4.length : Int)) <|
    bnd (b4[(IntKind.i64.wrap (i5 - 1)).toNat]?) fun b4' =>
    brO (decide (b3' ≤ b4')) (
      k0) (
      next (IntKind.i64.wrap (i5 + 1)))) (
    k1)
def design_Check_l11 {ρ : Type} (n : Nat) (d1_0 : Int) (d1_1 : List (List Int)) (b4 : List Int) (t21 : List (List Int)) (t22 : Int) (t23 : Int) (i5 : Int) (k0 : Option ρ) (k1 : Option ρ) : Option ρ :=
  iterM (fun (s : Int) nx => design_Check_s11 n d1_0 d1_1 b4 t21 t22 t23 s nx k0 k1) n i5
def design_Check_s6 {ρ : Type} (n : Nat) (d1_0 : Int) (d1_1 : List (List Int)) (t21 : List (List Int)) (t22 : Int) (t23 : Int) (next : Int → Option ρ) (k0 : Option ρ) (k1 : Option ρ) (k2 : Option ρ) : Option ρ :=
  brO (decide (t23 < t22)) (
    chk (0 ≤ t23) <|
    chk (t23 < (t21.length : Int)) <|
    bnd (t21[t23.toNat]?) fun r1' =>
    bnd (slices_ContainsFunc_intint__design_Check_1 n r1' d1_0 d1_1) fun z2' =>
    brO z2' (
      k0) (
      design_Check_l11 n d1_0 d1_1 r1' t21 t22 t23 1 (
        k1) (
        next (IntKind.i64.wrap (t23 + 1))))) (
    k2)
def design_Check_l6 {ρ : Type} (n : Nat) (d1_0 : Int) (d1_1 : List (List Int)) (t21 : List (List Int)) (t22 : Int) (t23 : Int) (k0 : Option ρ) (k1 : Option ρ) (k2 : Option ρ) : Option ρ :=
  iterM (fun (s : Int) nx => design_Check_s6 n d1_0 d1_1 t21 t22 s nx k0 k1 k2) n t23
def design_Check (n : Nat) (d0_0 : Int) (d0_1 : List (List Int)) : Option (Int) :=
  brO (decide (d0_0 < 1)) (
    some 1) (
    brO (decide (d0_0 > 40)) (
      some 1) (
      brO (decide ((d0_1.length : Int) > 200)) (
        some 3) (
        design_Check_l6 n d0_0 d0_1 d0_1 (d0_1.length : Int) 0 (
          some 1) (
          some 2) (
          some 0))))
def plane_linesOf_s10 {ρ : Type} (_n : Nat) (_d1_0 : Int) (_d1_1 : List (List Int)) (t2 : List Int) (i6 : Int) (_b7 : List Int) (p9 : Int) (_t13 : List (List Int)) (_t14 : Int) (_t15 : Int) (_t20 : List Int) (_t21 : Int) (_t22 : Int) (t26 : List Int) (t27 : Int) (out4 : List Int) (many5 : Int) (t28 : Int) (next : List Int → Int → Int → Option ρ) (k0 : List Int → Option ρ) (k1 : List Int → Int → Option ρ) : Option ρ :=
  brO (decide (t28 < t27)) (
    chk (0 ≤ t28) <|
    chk (t28 < (t26.length : Int)) <|
    bnd (t26[t28.toNat]?) fun b3' =>
    brO (p9 == b3') (
      next out4 many5 (IntKind.i64.wrap (t28 + 1))) (
      chk (0 ≤ p9) <|
      chk (p9 < 40) <|
      chk (0 ≤ b3') <|
      chk (b3' < 40) <|
      bnd (out4[((0 + (p9.toNat * 40)) + (b3'.toNat * 1))]?) fun b4' =>
      brO (decide (b4' > 0)) (
        chk (0 = 0) <|
        chk ((List.replicate 1600 (0 : Int)).length = 1600) <|
        chk (t2.length = 1600) <|
        k0 (List.replicate 1600 (0 : Int))) (
        chk (0 ≤ p9) <|
        chk (p9 < 40) <|
        chk (0 ≤ b3') <|
        chk (b3' < 40) <|
        chk (((0 + (p9.toNat * 40)) + (b3'.toNat * 1)) < out4.length) <|
        next (out4.set ((0 + (p9.toNat * 40)) + (b3'.toNat * 1)) (IntKind.i64.wrap (i6 + 1))) (IntKind.i64.wrap (many5 + 1)) (IntKind.i64.wrap (t28 + 1))))) (
    k1 out4 many5)
def plane_linesOf_l10 {ρ : Type} (n : Nat) (d1_0 : Int) (d1_1 : List (List Int)) (t2 : List Int) (i6 : Int) (b7 : List Int) (p9 : Int) (t13 : List (List Int)) (t14 : Int) (t15 : Int) (t20 : List Int) (t21 : Int) (t22 : Int) (t26 : List Int) (t27 : Int) (out4 : List Int) (many5 : Int) (t28 : Int) (k0 : List Int → Option ρ) (k1 : List Int → Int → Option ρ) : Option ρ :=
  iterM (fun (s : (List Int) × Int × Int) nx => plane_linesOf_s10 n d1_0 d1_1 t2 i6 b7 p9 t13 t14 t15 t20 t21 t22 t26 t27 s.1 s.2.1 s.2.2 (fun a0 a1 a2 => nx (a0, a1, a2)) k0 k1) n (out4, many5, t28)
def plane_linesOf_s7 {ρ : Type} (n : Nat) (d1_0 : Int) (d1_1 : List (List Int)) (t2 : List Int) (i6 : Int) (b7 : List Int) (t13 : List (List Int)) (t14 : Int) (t15 : Int) (t20 : List Int) (t21 : Int) (out4 : List Int) (many5 : Int) (t22 : Int) (next : List Int → Int → Int → Option ρ) (k0 : List Int → Option ρ) (k1 : List Int → Int → Option ρ) : Option ρ :=
  brO (decide (t22 < t21)) (
    chk (0 ≤ t22) <|
    chk (t22 < (t20.length : Int)) <|
    bnd (t20[t22.toNat]?) fun b2' =>
    plane_linesOf_l10 n d1_0 d1_1 t2 i6 b7 b2' t13 t14 t15 t20 t21 t22 b7 (b7.length : Int) out4 many5 0 (fun x5' =>
      k0 x5') (fun x6' x7' =>
      next x6' x7' (IntKind.i64.wrap (t22 + 1)))) (
    k1 out4 many5)
def plane_linesOf_l7 {ρ : Type} (n : Nat) (d1_0 : Int) (d1_1 : List (List Int)) (t2 : List Int) (i6 : Int) (b7 : List Int) (t13 : List (List Int)) (t14 : Int) (t15 : Int) (t20 : List Int) (t21 : Int) (out4 : List Int) (many5 : Int) (t22 : Int) (k0 : List Int → Option ρ) (k1 : List Int → Int → Option ρ) : Option ρ :=
  iterM (fun (s : (List Int) × Int × Int) nx => plane_linesOf_s7 n d1_0 d1_1 t2 i6 b7 t13 t14 t15 t20 t21 s.1 s.2.1 s.2.2 (fun a0 a1 a2 => nx (a0, a1, a2)) k0 k1) n (out4, many5, t22)
def plane_linesOf_s4 {ρ : Type} (n : Nat) (d1_0 : Int) (d1_1 : List (List Int)) (t2 : List Int) (t13 : List (List Int)) (t14 : Int) (out4 : List Int) (many5 : Int) (t15 : Int) (next : List Int → Int → Int → Option ρ) (k0 : List Int → Option ρ) (k1 : List Int → Int → Option ρ) : Option ρ :=
  brO (decide (t15 < t14)) (
    chk (0 ≤ t15) <|
    chk (t15 < (t13.length : Int)) <|
    bnd (t13[t15.toNat]?) fun r1' =>
    plane_linesOf_l7 n d1_0 d1_1 t2 t15 r1' t13 t14 t15 r1' (r1'.length : Int) out4 many5 0 (fun x8' =>
      k0 x8') (fun x9' x10' =>
      next x9' x10' (IntKind.i64.wrap (t15 + 1)))) (
    k1 out4 many5)
def plane_linesOf_l4 {ρ : Type} (n : Nat) (d1_0 : Int) (d1_1 : List (List Int)) (t2 : List Int) (t13 : List (List Int)) (t14 : Int) (out4 : List Int) (many5 : Int) (t15 : Int) (k0 : List Int → Option ρ) (k1 : List Int → Int → Option ρ) : Option ρ :=
  iterM (fun (s : (List Int) × Int × Int) nx => plane_linesOf_s4 n d1_0 d1_1 t2 t13 t14 s.1 s.2.1 s.2.2 (fun a0 a1 a2 => nx (a0, a1, a2)) k0 k1) n (out4, many5, t15)
def plane_linesOf_g20 {ρ : Type} (_n : Nat) (d1_0 : Int) (_d1_1 : List (List Int)) (t2 : List Int) (out4 : List Int) (many5 : Int) (k0 : Bool → Option ρ) : Option ρ :=
  chk (0 = 0) <|
  chk (out4.length = 1600) <|
  chk (0 = 0) <|
  chk (out4.length = 1600) <|
  chk (t2.length = 1600) <|
  k0 (many5 == (IntKind.i64.wrap (d1_0 * (IntKind.i64.wrap (d1_0 - 1)))))
def plane_linesOf (n : Nat) (d0_0 : Int) (d0_1 : List (List Int)) : Option ((List Int) × Bool) :=
  plane_linesOf_l4 n d0_0 d0_1 (List.replicate 1600 (0 : Int)) d0_1 (d0_1.length : Int) (List.replicate 1600 (0 : Int)) 0 0 (fun x11' =>
    chk ((x11'.length == 1600) = true) <|
    some (x11', false)) (fun x12' x13' =>
    plane_linesOf_g20 n d0_0 d0_1 (List.replicate 1600 (0 : Int)) x12' x13' (fun x14' =>
      chk ((x12'.length == 1600) = true) <|
      some (x12', x14')))
def design_sets_s7 {ρ : Type} (_n : Nat) (_out3 : List Int) (_t10 : List (List Int)) (_t11 : Int) (_t12 : Int) (t16 : List Int) (t17 : Int) (s_6 : Int) (t18 : Int) (next : Int → Int → Option ρ) (k0 : Int → Option ρ) : Option ρ :=
  brO (decide (t18 < t17)) (
    chk (0 ≤ t18) <|
    chk (t18 < (t16.length : Int)) <|
    bnd (t16[t18.toNat]?) fun b2' =>
    if b2' < 0 then none else
    next (IntKind.u64.wrap ((BitVec.ofInt 64 s_6 ||| BitVec.ofInt 64 (IntKind.u64.wrap (1 * 2 ^ (min b2'.toNat 64)))).toNat : Int)) (IntKind.i64.wrap (t18 + 1))) (
    k0 s_6)
def design_sets_l7 {ρ : Type} (n : Nat) (out3 : List Int) (t10 : List (List Int)) (t11 : Int) (t12 : Int) (t16 : List Int) (t17 : Int) (s_6 : Int) (t18 : Int) (k0 : Int → Option ρ) : Option ρ :=
  iterM (fun (s : Int × Int) nx => design_sets_s7 n out3 t10 t11 t12 t16 t17 s.1 s.2 (fun a0 a1 => nx (a0, a1)) k0) n (s_6, t18)
def design_sets_s3 {ρ : Type} (n : Nat) (t10 : List (List Int)) (t11 : Int) (out3 : List Int) (t12 : Int) (next : List Int → Int → Option ρ) (k0 : List Int → Option ρ) : Option ρ :=
  brO (decide (t12 < t11)) (
    chk (0 ≤ t12) <|
    chk (t12 < (t10.length : Int)) <|
    bnd (t10[t12.toNat]?) fun r1' =>
    design_sets_l7 n out3 t10 t11 t12 r1' (r1'.length : Int) 0 0 (fun x3' =>
      chk (77 = 77) <|
      chk ((out3 ++ [x3']).length < 2 ^ 40) <|
      next (out3 ++ [x3']) (IntKind.i64.wrap (t12 + 1)))) (
    k0 out3)
def design_sets_l3 {ρ : Type} (n : Nat) (t10 : List (List Int)) (t11 : Int) (out3 : List Int) (t12 : Int) (k0 : List Int → Option ρ) : Option ρ :=
  iterM (fun (s : (List Int) × Int) nx => design_sets_s3 n t10 t11 s.1 s.2 (fun a0 a1 => nx (a0, a1)) k0) n (out3, t12)
def design_sets (n : Nat) (_d0_0 : Int) (d0_1 : List (List Int)) : Option (List Int) :=
  design_sets_l3 n d0_1 (d0_1.length : Int) ([]) 0 (fun x4' =>
    some x4')
def math_bits_OnesCount64 (_n : Nat) (x0 : Int) : Option (Int) :=
  some (IntKind.i64.wrap ((BitVec.ofInt 64 (IntKind.i64.wrap (IntKind.u64.wrap ((IntKind.u64.wrap ((IntKind.u64.wrap ((IntKind.u64.wrap ((BitVec.ofInt 64 (IntKind.u64.wrap ((Int.fdiv (IntKind.u64.wrap ((IntKind.u64.wrap ((BitVec.ofInt 64 (Int.fdiv (IntKind.u64.wrap ((IntKind.u64.wrap ((BitVec.ofInt 64 (Int.fdiv x0 (2 ^ (min (1 : Int).toNat 64))) &&& BitVec.ofInt 64 6148914691236517205).toNat : Int)) + (IntKind.u64.wrap ((BitVec.ofInt 64 x0 &&& BitVec.ofInt 64 6148914691236517205).toNat : Int)))) (2 ^ (min (2 : Int).toNat 64))) &&& BitVec.ofInt 64 3689348814741910323).toNat : Int)) + (IntKind.u64.wrap ((BitVec.ofInt 64 (IntKind.u64.wrap ((IntKind.u64.wrap ((BitVec.ofInt 64 (Int.fdiv x0 (2 ^ (min (1 : Int).toNat 64))) &&& BitVec.ofInt 64 6148914691236517205).toNat : Int)) + (IntKind.u64.wrap ((BitVec.ofInt 64 x0 &&& BitVec.ofInt 64 6148914691236517205).toNat : Int)))) &&& BitVec.ofInt 64 3689348814741910323).toNat : Int)))) (2 ^ (min (4 : Int).toNat 64))) + (IntKind.u64.wrap ((IntKind.u64.wrap ((BitVec.ofInt 64 (Int.fdiv (IntKind.u64.wrap ((IntKind.u64.wrap ((BitVec.ofInt 64 (Int.fdiv x0 (2 ^ (min (1 : Int).toNat 64))) &&& BitVec.ofInt 64 6148914691236517205).toNat : Int)) + (IntKind.u64.wrap ((BitVec.ofInt 64 x0 &&& BitVec.ofInt 64 6148914691236517205).toNat : Int)))) (2 ^ (min (2 : Int).toNat 64))) &&& BitVec.ofInt 64 3689348814741910323).toNat : Int)) + (IntKind.u64.wrap ((BitVec.ofInt 64 (IntKind.u64.wrap ((IntKind.u64.wrap ((BitVec.ofInt 64 (Int.fdiv x0 (2 ^ (min (1 : Int).toNat 64))) &&& BitVec.ofInt 64 6148914691236517205).toNat : Int)) + (IntKind.u64.wrap ((BitVec.ofInt 64 x0 &&& BitVec.ofInt 64 6148914691236517205).toNat : Int)))) &&& BitVec.ofInt 64 3689348814741910323).toNat : Int)))))) &&& BitVec.ofInt 64 1085102592571150095).toNat : Int)) + (Int.fdiv (IntKind.u64.wrap ((BitVec.ofInt 64 (IntKind.u64.wrap ((Int.fdiv (IntKind.u64.wrap ((IntKind.u64.wrap ((BitVec.ofInt 64 (Int.fdiv (IntKind.u64.wrap ((IntKind.u64.wrap ((BitVec.ofInt 64 (Int.fdiv x0 (2 ^ (min (1 : Int).toNat 64))) &&& BitVec.ofInt 64 6148914691236517205).toNat : Int)) + (IntKind.u64.wrap ((BitVec.ofInt 64 x0 &&& BitVec.ofInt 64 6148914691236517205).toNat : Int)))) (2 ^ (min (2 : Int).toNat 64))) &&& BitVec.ofInt 64 3689348814741910323).toNat : Int)) + (IntKind.u64.wrap ((BitVec.ofInt 64 (IntKind.u64.wrap ((IntKind.u64.wrap ((BitVec.ofInt 64 (Int.fdiv x0 (2 ^ (min (1 : Int).toNat 64))) &&& BitVec.ofInt 64 6148914691236517205).toNat : Int)) + (IntKind.u64.wrap ((BitVec.ofInt 64 x0 &&& BitVec.ofInt 64 6148914691236517205).toNat : Int)))) &&& BitVec.ofInt 64 3689348814741910323).toNat : Int)))) (2 ^ (min (4 : Int).toNat 64))) + (IntKind.u64.wrap ((IntKind.u64.wrap ((BitVec.ofInt 64 (Int.fdiv (IntKind.u64.wrap ((IntKind.u64.wrap ((BitVec.ofInt 64 (Int.fdiv x0 (2 ^ (min (1 : Int).toNat 64))) &&& BitVec.ofInt 64 6148914691236517205).toNat : Int)) + (IntKind.u64.wrap ((BitVec.ofInt 64 x0 &&& BitVec.ofInt 64 6148914691236517205).toNat : Int)))) (2 ^ (min (2 : Int).toNat 64))) &&& BitVec.ofInt 64 3689348814741910323).toNat : Int)) + (IntKind.u64.wrap ((BitVec.ofInt 64 (IntKind.u64.wrap ((IntKind.u64.wrap ((BitVec.ofInt 64 (Int.fdiv x0 (2 ^ (min (1 : Int).toNat 64))) &&& BitVec.ofInt 64 6148914691236517205).toNat : Int)) + (IntKind.u64.wrap ((BitVec.ofInt 64 x0 &&& BitVec.ofInt 64 6148914691236517205).toNat : Int)))) &&& BitVec.ofInt 64 3689348814741910323).toNat : Int)))))) &&& BitVec.ofInt 64 1085102592571150095).toNat : Int)) (2 ^ (min (8 : Int).toNat 64))))) + (Int.fdiv (IntKind.u64.wrap ((IntKind.u64.wrap ((BitVec.ofInt 64 (IntKind.u64.wrap ((Int.fdiv (IntKind.u64.wrap ((IntKind.u64.wrap ((BitVec.ofInt 64 (Int.fdiv (IntKind.u64.wrap ((IntKind.u64.wrap ((BitVec.ofInt 64 (Int.fdiv x0 (2 ^ (min (1 : Int).toNat 64))) &&& BitVec.ofInt 64 6148914691236517205).toNat : Int)) + (IntKind.u64.wrap ((BitVec.ofInt 64 x0 &&& BitVec.ofInt 64 6148914691236517205).toNat : Int)))) (2 ^ (min (2 : Int).toNat 64))) &&& BitVec.ofInt 64 3689348814741910323).toNat : Int)) + (IntKind.u64.wrap ((BitVec.ofInt 64 (IntKind.u64.wrap ((IntKind.u64.wrap ((BitVec.ofInt 64 (Int.fdiv x0 (2 ^ (min (1 : Int).toNat 64))) &&& BitVec.ofInt 64 6148914691236517205).toNat : Int)) + (IntKind.u64.wrap ((BitVec.ofInt 64 x0 &&& BitVec.ofInt 64 6148914691236517205).toNat : Int)))) &&& BitVec.ofInt 64 3689348814741910323).toNat : Int)))) (2 ^ (min (4 : Int).toNat 64))) + (IntKind.u64.wrap ((IntKind.u64.wrap ((BitVec.ofInt 64 (Int.fdiv (IntKind.u64.wrap ((IntKind.u64.wrap ((BitVec.ofInt 64 (Int.fdiv x0 (2 ^ (min (1 : Int).toNat 64))) &&& BitVec.ofInt 64 6148914691236517205).toNat : Int)) + (IntKind.u64.wrap ((BitVec.ofInt 64 x0 &&& BitVec.ofInt 64 6148914691236517205).toNat : Int)))) (2 ^ (min (2 : Int).toNat 64))) &&& BitVec.ofInt 64 3689348814741910323).toNat : Int)) + (IntKind.u64.wrap ((BitVec.ofInt 64 (IntKind.u64.wrap ((IntKind.u64.wrap ((BitVec.ofInt 64 (Int.fdiv x0 (2 ^ (min (1 : Int).toNat 64))) &&& BitVec.ofInt 64 6148914691236517205).toNat : Int)) + (IntKind.u64.wrap ((BitVec.ofInt 64 x0 &&& BitVec.ofInt 64 6148914691236517205).toNat : Int)))) &&& BitVec.ofInt 64 3689348814741910323).toNat : Int)))))) &&& BitVec.ofInt 64 1085102592571150095).toNat : Int)) + (Int.fdiv (IntKind.u64.wrap ((BitVec.ofInt 64 (IntKind.u64.wrap ((Int.fdiv (IntKind.u64.wrap ((IntKind.u64.wrap ((BitVec.ofInt 64 (Int.fdiv (IntKind.u64.wrap ((IntKind.u64.wrap ((BitVec.ofInt 64 (Int.fdiv x0 (2 ^ (min (1 : Int).toNat 64))) &&& BitVec.ofInt 64 6148914691236517205).toNat : Int)) + (IntKind.u64.wrap ((BitVec.ofInt 64 x0 &&& BitVec.ofInt 64 6148914691236517205).toNat : Int)))) (2 ^ (min (2 : Int).toNat 64))) &&& BitVec.ofInt 64 3689348814741910323).toNat : Int)) + (IntKind.u64.wrap ((BitVec.ofInt 64 (IntKind.u64.wrap ((IntKind.u64.wrap ((BitVec.ofInt 64 (Int.fdiv x0 (2 ^ (min (1 : Int).toNat 64))) &&& BitVec.ofInt 64 6148914691236517205).toNat : Int)) + (IntKind.u64.wrap ((BitVec.ofInt 64 x0 &&& BitVec.ofInt 64 6148914691236517205).toNat : Int)))) &&& BitVec.ofInt 64 3689348814741910323).toNat : Int)))) (2 ^ (min (4 : Int).toNat 64))) + (IntKind.u64.wrap ((IntKind.u64.wrap ((BitVec.ofInt 64 (Int.fdiv (IntKind.u64.wrap ((IntKind.u64.wrap ((BitVec.ofInt 64 (Int.fdiv x0 (2 ^ (min (1 : Int).toNat 64))) &&& BitVec.ofInt 64 6148914691236517205).toNat : Int)) + (IntKind.u64.wrap ((BitVec.ofInt 64 x0 &&& BitVec.ofInt 64 6148914691236517205).toNat : Int)))) (2 ^ (min (2 : Int).toNat 64))) &&& BitVec.ofInt 64 3689348814741910323).toNat : Int)) + (IntKind.u64.wrap ((BitVec.ofInt 64 (IntKind.u64.wrap ((IntKind.u64.wrap ((BitVec.ofInt 64 (Int.fdiv x0 (2 ^ (min (1 : Int).toNat 64))) &&& BitVec.ofInt 64 6148914691236517205).toNat : Int)) + (IntKind.u64.wrap ((BitVec.ofInt 64 x0 &&& BitVec.ofInt 64 6148914691236517205).toNat : Int)))) &&& BitVec.ofInt 64 3689348814741910323).toNat : Int)))))) &&& BitVec.ofInt 64 1085102592571150095).toNat : Int)) (2 ^ (min (8 : Int).toNat 64))))) (2 ^ (min (16 : Int).toNat 64))))) + (Int.fdiv (IntKind.u64.wrap ((IntKind.u64.wrap ((IntKind.u64.wrap ((BitVec.ofInt 64 (IntKind.u64.wrap ((Int.fdiv (IntKind.u64.wrap ((IntKind.u64.wrap ((BitVec.ofInt 64 (Int.fdiv (IntKind.u64.wrap ((IntKind.u64.wrap ((BitVec.ofInt 64 (Int.fdiv x0 (2 ^ (min (1 : Int).toNat 64))) &&& BitVec.ofInt 64 6148914691236517205).toNat : Int)) + (IntKind.u64.wrap ((BitVec.ofInt 64 x0 &&& BitVec.ofInt 64 6148914691236517205).toNat : Int)))) (2 ^ (min (2 : Int).toNat 64))) &&& BitVec.ofInt 64 3689348814741910323).toNat : Int)) + (IntKind.u64.wrap ((BitVec.ofInt 64 (IntKind.u64.wrap ((IntKind.u64.wrap ((BitVec.ofInt 64 (Int.fdiv x0 (2 ^ (min (1 : Int).toNat 64))) &&& BitVec.ofInt 64 6148914691236517205).toNat : Int)) + (IntKind.u64.wrap ((BitVec.ofInt 64 x0 &&& BitVec.ofInt 64 6148914691236517205).toNat : Int)))) &&& BitVec.ofInt 64 3689348814741910323).toNat : Int)))) (2 ^ (min (4 : Int).toNat 64))) + (IntKind.u64.wrap ((IntKind.u64.wrap ((BitVec.ofInt 64 (Int.fdiv (IntKind.u64.wrap ((IntKind.u64.wrap ((BitVec.ofInt 64 (Int.fdiv x0 (2 ^ (min (1 : Int).toNat 64))) &&& BitVec.ofInt 64 6148914691236517205).toNat : Int)) + (IntKind.u64.wrap ((BitVec.ofInt 64 x0 &&& BitVec.ofInt 64 6148914691236517205).toNat : Int)))) (2 ^ (min (2 : Int).toNat 64))) &&& BitVec.ofInt 64 3689348814741910323).toNat : Int)) + (IntKind.u64.wrap ((BitVec.ofInt 64 (IntKind.u64.wrap ((IntKind.u64.wrap ((BitVec.ofInt 64 (Int.fdiv x0 (2 ^ (min (1 : Int).toNat 64))) &&& BitVec.ofInt 64 6148914691236517205).toNat : Int)) + (IntKind.u64.wrap ((BitVec.ofInt 64 x0 &&& BitVec.ofInt 64 6148914691236517205).toNat : Int)))) &&& BitVec.ofInt 64 3689348814741910323).toNat : Int)))))) &&& BitVec.ofInt 64 1085102592571150095).toNat : Int)) + (Int.fdiv (IntKind.u64.wrap ((BitVec.ofInt 64 (IntKind.u64.wrap ((Int.fdiv (IntKind.u64.wrap ((IntKind.u64.wrap ((BitVec.ofInt 64 (Int.fdiv (IntKind.u64.wrap ((IntKind.u64.wrap ((BitVec.ofInt 64 (Int.fdiv x0 (2 ^ (min (1 : Int).toNat 64))) &&& BitVec.ofInt 64 6148914691236517205).toNat : Int)) + (IntKind.u64.wrap ((BitVec.ofInt 64 x0 &&& BitVec.ofInt 64 6148914691236517205).toNat : Int)))) (2 ^ (min (2 : Int).toNat 64))) &&& BitVec.ofInt 64 3689348814741910323).toNat : Int)) + (IntKind.u64.wrap ((BitVec.ofInt 64 (IntKind.u64.wrap ((IntKind.u64.wrap ((BitVec.ofInt 64 (Int.fdiv x0 (2 ^ (min (1 : Int).toNat 64))) &&& BitVec.ofInt 64 6148914691236517205).toNat : Int)) + (IntKind.u64.wrap ((BitVec.ofInt 64 x0 &&& BitVec.ofInt 64 6148914691236517205).toNat : Int)))) &&& BitVec.ofInt 64 3689348814741910323).toNat : Int)))) (2 ^ (min (4 : Int).toNat 64))) + (IntKind.u64.wrap ((IntKind.u64.wrap ((BitVec.ofInt 64 (Int.fdiv (IntKind.u64.wrap ((IntKind.u64.wrap ((BitVec.ofInt 64 (Int.fdiv x0 (2 ^ (min (1 : Int).toNat 64))) &&& BitVec.ofInt 64 6148914691236517205).toNat : Int)) + (IntKind.u64.wrap ((BitVec.ofInt 64 x0 &&& BitVec.ofInt 64 6148914691236517205).toNat : Int)))) (2 ^ (min (2 : Int).toNat 64))) &&& BitVec.ofInt 64 3689348814741910323).toNat : Int)) + (IntKind.u64.wrap ((BitVec.ofInt 64 (IntKind.u64.wrap ((IntKind.u64.wrap ((BitVec.ofInt 64 (Int.fdiv x0 (2 ^ (min (1 : Int).toNat 64))) &&& BitVec.ofInt 64 6148914691236517205).toNat : Int)) + (IntKind.u64.wrap ((BitVec.ofInt 64 x0 &&& BitVec.ofInt 64 6148914691236517205).toNat : Int)))) &&& BitVec.ofInt 64 3689348814741910323).toNat : Int)))))) &&& BitVec.ofInt 64 1085102592571150095).toNat : Int)) (2 ^ (min (8 : Int).toNat 64))))) + (Int.fdiv (IntKind.u64.wrap ((IntKind.u64.wrap ((BitVec.ofInt 64 (IntKind.u64.wrap ((Int.fdiv (IntKind.u64.wrap ((IntKind.u64.wrap ((BitVec.ofInt 64 (Int.fdiv (IntKind.u64.wrap ((IntKind.u64.wrap ((BitVec.ofInt 64 (Int.fdiv x0 (2 ^ (min (1 : Int).toNat 64))) &&& BitVec.ofInt 64 6148914691236517205).toNat : Int)) + (IntKind.u64.wrap ((BitVec.ofInt 64 x0 &&& BitVec.ofInt 64 6148914691236517205).toNat : Int)))) (2 ^ (min (2 : Int).toNat 64))) &&& BitVec.ofInt 64 3689348814741910323).toNat : Int)) + (IntKind.u64.wrap ((BitVec.ofInt 64 (IntKind.u64.wrap ((IntKind.u64.wrap ((BitVec.ofInt 64 (Int.fdiv x0 (2 ^ (min (1 : Int).toNat 64))) &&& BitVec.ofInt 64 6148914691236517205).toNat : Int)) + (IntKind.u64.wrap ((BitVec.ofInt 64 x0 &&& BitVec.ofInt 64 6148914691236517205).toNat : Int)))) &&& BitVec.ofInt 64 3689348814741910323).toNat : Int)))) (2 ^ (min (4 : Int).toNat 64))) + (IntKind.u64.wrap ((IntKind.u64.wrap ((BitVec.ofInt 64 (Int.fdiv (IntKind.u64.wrap ((IntKind.u64.wrap ((BitVec.ofInt 64 (Int.fdiv x0 (2 ^ (min (1 : Int).toNat 64))) &&& BitVec.ofInt 64 6148914691236517205).toNat : Int)) + (IntKind.u64.wrap ((BitVec.ofInt 64 x0 &&& BitVec.ofInt 64 6148914691236517205).toNat : Int)))) (2 ^ (min (2 : Int).toNat 64))) &&& BitVec.ofInt 64 3689348814741910323).toNat : Int)) + (IntKind.u64.wrap ((BitVec.ofInt 64 (IntKind.u64.wrap ((IntKind.u64.wrap ((BitVec.ofInt 64 (Int.fdiv x0 (2 ^ (min (1 : Int).toNat 64))) &&& BitVec.ofInt 64 6148914691236517205).toNat : Int)) + (IntKind.u64.wrap ((BitVec.ofInt 64 x0 &&& BitVec.ofInt 64 6148914691236517205).toNat : Int)))) &&& BitVec.ofInt 64 3689348814741910323).toNat : Int)))))) &&& BitVec.ofInt 64 1085102592571150095).toNat : Int)) + (Int.fdiv (IntKind.u64.wrap ((BitVec.ofInt 64 (IntKind.u64.wrap ((Int.fdiv (IntKind.u64.wrap ((IntKind.u64.wrap ((BitVec.ofInt 64 (Int.fdiv (IntKind.u64.wrap ((IntKind.u64.wrap ((BitVec.ofInt 64 (Int.fdiv x0 (2 ^ (min (1 : Int).toNat 64))) &&& BitVec.ofInt 64 6148914691236517205).toNat : Int)) + (IntKind.u64.wrap ((BitVec.ofInt 64 x0 &&& BitVec.ofInt 64 6148914691236517205).toNat : Int)))) (2 ^ (min (2 : Int).toNat 64))) &&& BitVec.ofInt 64 3689348814741910323).toNat : Int)) + (IntKind.u64.wrap ((BitVec.ofInt 64 (IntKind.u64.wrap ((IntKind.u64.wrap ((BitVec.ofInt 64 (Int.fdiv x0 (2 ^ (min (1 : Int).toNat 64))) &&& BitVec.ofInt 64 6148914691236517205).toNat : Int)) + (IntKind.u64.wrap ((BitVec.ofInt 64 x0 &&& BitVec.ofInt 64 6148914691236517205).toNat : Int)))) &&& BitVec.ofInt 64 3689348814741910323).toNat : Int)))) (2 ^ (min (4 : Int).toNat 64))) + (IntKind.u64.wrap ((IntKind.u64.wrap ((BitVec.ofInt 64 (Int.fdiv (IntKind.u64.wrap ((IntKind.u64.wrap ((BitVec.ofInt 64 (Int.fdiv x0 (2 ^ (min (1 : Int).toNat 64))) &&& BitVec.ofInt 64 6148914691236517205).toNat : Int)) + (IntKind.u64.wrap ((BitVec.ofInt 64 x0 &&& BitVec.ofInt 64 6148914691236517205).toNat : Int)))) (2 ^ (min (2 : Int).toNat 64))) &&& BitVec.ofInt 64 3689348814741910323).toNat : Int)) + (IntKind.u64.wrap ((BitVec.ofInt 64 (IntKind.u64.wrap ((IntKind.u64.wrap ((BitVec.ofInt 64 (Int.fdiv x0 (2 ^ (min (1 : Int).toNat 64))) &&& BitVec.ofInt 64 6148914691236517205).toNat : Int)) + (IntKind.u64.wrap ((BitVec.ofInt 64 x0 &&& BitVec.ofInt 64 6148914691236517205).toNat : Int)))) &&& BitVec.ofInt 64 3689348814741910323).toNat : Int)))))) &&& BitVec.ofInt 64 1085102592571150095).toNat : Int)) (2 ^ (min (8 : Int).toNat 64))))) (2 ^ (min (16 : Int).toNat 64))))) (2 ^ (min (32 : Int).toNat 64)))))) &&& BitVec.ofInt 64 127).toNat : Int))
def slices_Index_intint_s2 {ρ : Type} (_n : Nat) (s_0 : List Int) (v1 : Int) (t7 : Int) (t8 : Int) (next : Int → Option ρ) (k0 : Int → Option ρ) (k1 : Option ρ) : Option ρ :=
  brO (decide (t8 < t7)) (
    chk (0 ≤ t8) <|
    chk (t8 < (s_0.length : Int)) <|
    bnd (s_0[t8.toNat]?) fun b1' =>
    brO (v1 == b1') (
      k0 t8) (
      next (IntKind.i64.wrap (t8 + 1)))) (
    k1)
def slices_Index_intint_l2 {ρ : Type} (n : Nat) (s_0 : List Int) (v1 : Int) (t7 : Int) (t8 : Int) (k0 : Int → Option ρ) (k1 : Option ρ) : Option ρ :=
  iterM (fun (s : Int) nx => slices_Index_intint_s2 n s_0 v1 t7 s nx k0 k1) n t8
def slices_Index_intint (n : Nat) (s_0 : List Int) (v1 : Int) : Option (Int) :=
  slices_Index_intint_l2 n s_0 v1 (s_0.length : Int) 0 (fun x2' =>
    some x2') (
    some (-1))
def slices_Contains_intint (n : Nat) (s_0 : List Int) (v1 : Int) : Option (Bool) :=
  bnd (slices_Index_intint n s_0 v1) fun z1' =>
  some (decide (z1' ≥ 0))
def design_Meets_s10 {ρ : Type} (n : Nat) (_all6 : List Int) (a8 : Int) (_t19 : List Int) (_t20 : Int) (_t21 : Int) (t28 : List Int) (t29 : Int) (out5 : List Int) (t30 : Int) (next : List Int → Int → Option ρ) (k0 : List Int → Option ρ) : Option ρ :=
  brO (decide (t30 < t29)) (
    chk (0 ≤ t30) <|
    chk (t30 < (t28.length : Int)) <|
    bnd (t28[t30.toNat]?) fun b4' =>
    bnd (math_bits_OnesCount64 n (IntKind.u64.wrap ((BitVec.ofInt 64 a8 &&& BitVec.ofInt 64 b4').toNat : Int))) fun z5' =>
    bnd (slices_Contains_intint n out5 z5') fun z6' =>
    brO (!z6') (
      chk (3 = 3) <|
      chk ((out5 ++ [z5']).length < 2 ^ 40) <|
      next (out5 ++ [z5']) (IntKind.i64.wrap (t30 + 1))) (
      next out5 (IntKind.i64.wrap (t30 + 1)))) (
    k0 out5)
def design_Meets_l10 {ρ : Type} (n : Nat) (all6 : List Int) (a8 : Int) (t19 : List Int) (t20 : Int) (t21 : Int) (t28 : List Int) (t29 : Int) (out5 : List Int) (t30 : Int) (k0 : List Int → Option ρ) : Option ρ :=
  iterM (fun (s : (List Int) × Int) nx => design_Meets_s10 n all6 a8 t19 t20 t21 t28 t29 s.1 s.2 (fun a0 a1 => nx (a0, a1)) k0) n (out5, t30)
def design_Meets_s7 {ρ : Type} (n : Nat) (all6 : List Int) (t19 : List Int) (t20 : Int) (out5 : List Int) (t21 : Int) (next : List Int → Int → Option ρ) (k0 : List Int → Option ρ) : Option ρ :=
  brO (decide (t21 < t20)) (
    chk (0 ≤ t21) <|
    chk (t21 < (t19.length : Int)) <|
    bnd (t19[t21.toNat]?) fun b3' =>
    chk (0 ≤ (0 : Int)) <|
    chk ((0 : Int) ≤ t21) <|
    chk (t21 ≤ (all6.length : Int)) <|
    design_Meets_l10 n all6 b3' t19 t20 t21 (all6.take t21.toNat) ((all6.take t21.toNat).length : Int) out5 0 (fun x7' =>
      next x7' (IntKind.i64.wrap (t21 + 1)))) (
    k0 out5)
def design_Meets_l7 {ρ : Type} (n : Nat) (all6 : List Int) (t19 : List Int) (t20 : Int) (out5 : List Int) (t21 : Int) (k0 : List Int → Option ρ) : Option ρ :=
  iterM (fun (s : (List Int) × Int) nx => design_Meets_s7 n all6 t19 t20 s.1 s.2 (fun a0 a1 => nx (a0, a1)) k0) n (out5, t21)
def design_Meets (n : Nat) (d0_0 : Int) (d0_1 : List (List Int)) : Option ((List Int) × Int) :=
  bnd (design_Check n d0_0 d0_1) fun z1' =>
  brO (z1' != 0) (
    some ([], z1')) (
    bnd (design_sets n d0_0 d0_1) fun z2' =>
    design_Meets_l7 n z2' z2' (z2'.length : Int) ([]) 0 (fun x8' =>
      bnd (sortIm x8') fun z9' =>
      some (z9', 0)))
def slices_Equal_intint_s4 {ρ : Type} (_n : Nat) (s10 : List Int) (s21 : List Int) (t12 : Int) (t13 : Int) (next : Int → Option ρ) (k0 : Option ρ) (k1 : Option ρ) : Option ρ :=
  brO (decide (t13 < t12)) (
    chk (0 ≤ t13) <|
    chk (t13 < (s10.length : Int)) <|
    bnd (s10[t13.toNat]?) fun b1' =>
    chk (0 ≤ t13) <|
    chk (t13 < (s21.length : Int)) <|
    bnd (s21[t13.toNat]?) fun b2' =>
    brO (b1' != b2') (
      k0) (
      next (IntKind.i64.wrap (t13 + 1)))) (
    k1)
def slices_Equal_intint_l4 {ρ : Type} (n : Nat) (s10 : List Int) (s21 : List Int) (t12 : Int) (t13 : Int) (k0 : Option ρ) (k1 : Option ρ) : Option ρ :=
  iterM (fun (s : Int) nx => slices_Equal_intint_s4 n s10 s21 t12 s nx k0 k1) n t13
def slices_Equal_intint (n : Nat) (s10 : List Int) (s21 : List Int) : Option (Bool) :=
  brO ((s10.length : Int) != (s21.length : Int)) (
    some false) (
    slices_Equal_intint_l4 n s10 s21 (s10.length : Int) 0 (
      some false) (
      some true))
def plane_four_s12 {ρ : Type} (_n : Nat) (t3 : List Int) (t5 : Int) (t6 : Int) (t7 : Int) (_t10 : Int) (_t11 : Int) (_t14 : Int) (_t15 : Int) (_t18 : Int) (_t19 : Int) (t33 : Int) (t34 : Int) (next : Int → Option ρ) (k0 : Option ρ) (k1 : Option ρ) : Option ρ :=
  brO (decide (t34 < t33)) (
    chk (0 ≤ t5) <|
    chk (t5 < 40) <|
    chk (0 ≤ t6) <|
    chk (t6 < 40) <|
    bnd (t3[((0 + (t5.toNat * 40)) + (t6.toNat * 1))]?) fun b3' =>
    chk (0 ≤ t5) <|
    chk (t5 < 40) <|
    chk (0 ≤ t34) <|
    chk (t34 < 40) <|
    bnd (t3[((0 + (t5.toNat * 40)) + (t34.toNat * 1))]?) fun b4' =>
    brO (b3' != b4') (
      chk (0 ≤ t5) <|
      chk (t5 < 40) <|
      chk (0 ≤ t7) <|
      chk (t7 < 40) <|
      bnd (t3[((0 + (t5.toNat * 40)) + (t7.toNat * 1))]?) fun b5' =>
      chk (0 ≤ t5) <|
      chk (t5 < 40) <|
      chk (0 ≤ t34) <|
      chk (t34 < 40) <|
      bnd (t3[((0 + (t5.toNat * 40)) + (t34.toNat * 1))]?) fun b6' =>
      brO (b5' != b6') (
        chk (0 ≤ t6) <|
        chk (t6 < 40) <|
        chk (0 ≤ t7) <|
        chk (t7 < 40) <|
        bnd (t3[((0 + (t6.toNat * 40)) + (t7.toNat * 1))]?) fun b7' =>
        chk (0 ≤ t6) <|
        chk (t6 < 40) <|
        chk (0 ≤ t34) <|
        chk (t34 < 40) <|
        bnd (t3[((0 + (t6.toNat * 40)) + (t34.toNat * 1))]?) fun b8' =>
        brO (b7' != b8') (
          k0) (
          next (IntKind.i64.wrap (t34 + 1)))) (
        next (IntKind.i64.wrap (t34 + 1)))) (
      next (IntKind.i64.wrap (t34 + 1)))) (
    k1)
def plane_four_l12 {ρ : Type} (n : Nat) (t3 : List Int) (t5 : Int) (t6 : Int) (t7 : Int) (t10 : Int) (t11 : Int) (t14 : Int) (t15 : Int) (t18 : Int) (t19 : Int) (t33 : Int) (t34 : Int) (k0 : Option ρ) (k1 : Option ρ) : Option ρ :=
  iterM (fun (s : Int) nx => plane_four_s12 n t3 t5 t6 t7 t10 t11 t14 t15 t18 t19 t33 s nx k0 k1) n t34
def plane_four_s8 {ρ : Type} (n : Nat) (t3 : List Int) (t5 : Int) (t6 : Int) (t10 : Int) (t11 : Int) (t14 : Int) (t15 : Int) (t18 : Int) (t19 : Int) (next : Int → Option ρ) (k0 : Option ρ) (k1 : Option ρ) : Option ρ :=
  brO (decide (t19 < t18)) (
    chk (0 ≤ t5) <|
    chk (t5 < 40) <|
    chk (0 ≤ t6) <|
    chk (t6 < 40) <|
    bnd (t3[((0 + (t5.toNat * 40)) + (t6.toNat * 1))]?) fun b1' =>
    chk (0 ≤ t5) <|
    chk (t5 < 40) <|
    chk (0 ≤ t19) <|
    chk (t19 < 40) <|
    bnd (t3[((0 + (t5.toNat * 40)) + (t19.toNat * 1))]?) fun b2' =>
    brO (b1' == b2') (
      next (IntKind.i64.wrap (t19 + 1))) (
      plane_four_l12 n t3 t5 t6 t19 t10 t11 t14 t15 t18 t19 t19 0 (
        k0) (
        next (IntKind.i64.wrap (t19 + 1))))) (
    k1)
def plane_four_l8 {ρ : Type} (n : Nat) (t3 : List Int) (t5 : Int) (t6 : Int) (t10 : Int) (t11 : Int) (t14 : Int) (t15 : Int) (t18 : Int) (t19 : Int) (k0 : Option ρ) (k1 : Option ρ) : Option ρ :=
  iterM (fun (s : Int) nx => plane_four_s8 n t3 t5 t6 t10 t11 t14 t15 t18 s nx k0 k1) n t19
def plane_four_s5 {ρ : Type} (n : Nat) (t3 : List Int) (t5 : Int) (t10 : Int) (t11 : Int) (t14 : Int) (t15 : Int) (next : Int → Option ρ) (k0 : Option ρ) (k1 : Option ρ) : Option ρ :=
  brO (decide (t15 < t14)) (
    plane_four_l8 n t3 t5 t15 t10 t11 t14 t15 t15 0 (
      k0) (
      next (IntKind.i64.wrap (t15 + 1)))) (
    k1)
def plane_four_l5 {ρ : Type} (n : Nat) (t3 : List Int) (t5 : Int) (t10 : Int) (t11 : Int) (t14 : Int) (t15 : Int) (k0 : Option ρ) (k1 : Option ρ) : Option ρ :=
  iterM (fun (s : Int) nx => plane_four_s5 n t3 t5 t10 t11 t14 s nx k0 k1) n t15
def plane_four_s2 {ρ : Type} (n : Nat) (t3 : List Int) (t10 : Int) (t11 : Int) (next : Int → Option ρ) (k0 : Option ρ) (k1 : Option ρ) : Option ρ :=
  brO (decide (t11 < t10)) (
    plane_four_l5 n t3 t11 t10 t11 t11 0 (
      k0) (
      next (IntKind.i64.wrap (t11 + 1)))) (
    k1)
def plane_four_l2 {ρ : Type} (n : Nat) (t3 : List Int) (t10 : Int) (t11 : Int) (k0 : Option ρ) (k1 : Option ρ) : Option ρ :=
  iterM (fun (s : Int) nx => plane_four_s2 n t3 t10 s nx k0 k1) n t11
def plane_four (n : Nat) (toArray0_0 : Int) (_toArray0_1 : List (List Int)) (t1 : List Int) : Option (Bool) :=
  plane_four_l2 n t1 toArray0_0 0 (
    some true) (
    some false)
def plane_Check (n : Nat) (d0_0 : Int) (d0_1 : List (List Int)) : Option (Int × Int) :=
  bnd (design_Check n d0_0 d0_1) fun z1' =>
  brO (z1' != 0) (
    some (0, z1')) (
    bnd (plane_linesOf n d0_0 d0_1) fun z2' =>
    chk (0 = 0) <|
    chk (z2'.1.length = 1600) <|
    chk ((List.replicate 1600 (0 : Int)).length = 1600) <|
    bnd (design_Meets n d0_0 d0_1) fun z3' =>
    brO (!z2'.2) (
      some (0, 4)) (
      bnd (slices_Equal_intint n z3'.1 ([1])) fun z4' =>
      brO (!z4') (
        some (0, 4)) (
        chk (0 = 0) <|
        chk (z2'.1.length = 1600) <|
        bnd (plane_four n d0_0 d0_1 z2'.1) fun z5' =>
        brO (!z5') (
          some (0, 4)) (
          chk (0 ≤ (0 : Int)) <|
          chk ((0 : Int) < (d0_1.length : Int)) <|
          bnd (d0_1[0]?) fun r6' =>
          some ((IntKind.i64.wrap ((r6'.length : Int) - 1)), 0)))))
def top_one (n : Nat) : Option (Bool) :=
  bnd (field_Least n 2 3) fun z1' =>
  bnd (differ_Singer n z1'.1 z1'.2.1 z1'.2.2.1) fun z2' =>
  bnd (differ_Develop n z2'.1 z2'.2.1) fun z3' =>
  bnd (plane_Check n z3'.1 z3'.2.1) fun z4' =>
  brO (z1'.2.2.2 == 0) (
    brO (z2'.2.2 == 0) (
      brO (z3'.2.2 == 0) (
        brO (z4'.2 == 0) (
          some (z4'.1 == 2)) (
          some false)) (
        some false)) (
      some false)) (
    some false)
def triple_Grow_1 (_n : Nat) (p0 : Int) (t1 : Int) : Option (Bool) :=
  brO (decide (p0 < 0)) (
    some true) (
    some (decide (p0 ≥ t1)))
def slices_IndexFunc_intint__triple_Grow_1_s2 {ρ : Type} (n : Nat) (s_0 : List Int) (f1 : Int) (t7 : Int) (t8 : Int) (next : Int → Option ρ) (k0 : Int → Option ρ) (k1 : Option ρ) : Option ρ :=
  brO (decide (t8 < t7)) (
    chk (0 ≤ t8) <|
    chk (t8 < (s_0.length : Int)) <|
    bnd (s_0[t8.toNat]?) fun b1' =>
    bnd (triple_Grow_1 n b1' f1) fun z2' =>
    brO z2' (
      k0 t8) (
      next (IntKind.i64.wrap (t8 + 1)))) (
    k1)
def slices_IndexFunc_intint__triple_Grow_1_l2 {ρ : Type} (n : Nat) (s_0 : List Int) (f1 : Int) (t7 : Int) (t8 : Int) (k0 : Int → Option ρ) (k1 : Option ρ) : Option ρ :=
  iterM (fun (s : Int) nx => slices_IndexFunc_intint__triple_Grow_1_s2 n s_0 f1 t7 s nx k0 k1) n t8
def slices_IndexFunc_intint__triple_Grow_1 (n : Nat) (s_0 : List Int) (f1 : Int) : Option (Int) :=
  slices_IndexFunc_intint__triple_Grow_1_l2 n s_0 f1 (s_0.length : Int) 0 (fun x3' =>
    some x3') (
    some (-1))
def slices_ContainsFunc_intint__triple_Grow_1 (n : Nat) (s_0 : List Int) (f1 : Int) : Option (Bool) :=
  bnd (slices_IndexFunc_intint__triple_Grow_1 n s_0 f1) fun z1' =>
  some (decide (z1' ≥ 0))
def triple_lister_add (_n : Nat) (l0_0 : List (List Int)) (l0_1 : Int) (a1 : Int) (b2 : Int) (c_3 : Int) : Option ((List (List Int)) × Int) :=
  bnd (sortIm ([a1, b2, c_3])) fun z1' =>
  chk (22 = 22) <|
  chk ((l0_0 ++ [z1']).length < 2 ^ 40) <|
  some ((l0_0 ++ [z1']), l0_1)
def triple_third_s6 {ρ : Type} (_n : Nat) (_toArray0 : List (List Int)) (_t2 : List Int) (t5 : Int) (_t13 : Int) (t4 : List Int) (t16 : Int) (next : List Int → Int → Option ρ) (k0 : List Int → Option ρ) : Option ρ :=
  brO (decide (t16 < 40)) (
    chk (0 ≤ t5) <|
    chk (t5 < 40) <|
    chk (0 ≤ t16) <|
    chk (t16 < 40) <|
    chk (((0 + (t5.toNat * 40)) + (t16.toNat * 1)) < t4.length) <|
    next (t4.set ((0 + (t5.toNat * 40)) + (t16.toNat * 1)) (-1)) (IntKind.i64.wrap (t16 + 1))) (
    k0 t4)
def triple_third_l6 {ρ : Type} (n : Nat) (toArray0 : List (List Int)) (t2 : List Int) (t5 : Int) (t13 : Int) (t4 : List Int) (t16 : Int) (k0 : List Int → Option ρ) : Option ρ :=
  iterM (fun (s : (List Int) × Int) nx => triple_third_s6 n toArray0 t2 t5 t13 s.1 s.2 (fun a0 a1 => nx (a0, a1)) k0) n (t4, t16)
def triple_third_s3 {ρ : Type} (n : Nat) (toArray0 : List (List Int)) (t2 : List Int) (t4 : List Int) (t13 : Int) (next : List Int → Int → Option ρ) (k0 : List Int → Option ρ) : Option ρ :=
  brO (decide (t13 < 40)) (
    triple_third_l6 n toArray0 t2 t13 t13 t4 0 (fun x1' =>
      next x1' (IntKind.i64.wrap (t13 + 1)))) (
    k0 t4)
def triple_third_l3 {ρ : Type} (n : Nat) (toArray0 : List (List Int)) (t2 : List Int) (t4 : List Int) (t13 : Int) (k0 : List Int → Option ρ) : Option ρ :=
  iterM (fun (s : (List Int) × Int) nx => triple_third_s3 n toArray0 t2 s.1 s.2 (fun a0 a1 => nx (a0, a1)) k0) n (t4, t13)
def triple_third_s15 {ρ : Type} (_n : Nat) (t2 : List Int) (t8 : List Int) (_t25 : List (List Int)) (_t26 : Int) (_t27 : Int) (t31 : List Int) (t32 : Int) (t4 : List Int) (t33 : Int) (next : List Int → Int → Option ρ) (k0 : List Int → Option ρ) (k1 : List Int → Option ρ) : Option ρ :=
  brO (decide (t33 < t32)) (
    chk (0 ≤ t33) <|
    chk (t33 < (t31.length : Int)) <|
    bnd (t31[t33.toNat]?) fun b4' =>
    chk (0 ≤ ((IntKind.i64.wrap (t33 + 1)).tmod 3)) <|
    chk (((IntKind.i64.wrap (t33 + 1)).tmod 3) < (t8.length : Int)) <|
    bnd (t8[((IntKind.i64.wrap (t33 + 1)).tmod 3).toNat]?) fun b5' =>
    chk (0 ≤ ((IntKind.i64.wrap (t33 + 2)).tmod 3)) <|
    chk (((IntKind.i64.wrap (t33 + 2)).tmod 3) < (t8.length : Int)) <|
    bnd (t8[((IntKind.i64.wrap (t33 + 2)).tmod 3).toNat]?) fun b6' =>
    chk (0 ≤ b4') <|
    chk (b4' < 40) <|
    chk (0 ≤ b5') <|
    chk (b5' < 40) <|
    bnd (t4[((0 + (b4'.toNat * 40)) + (b5'.toNat * 1))]?) fun b7' =>
    brO (decide (b7' ≥ 0)) (
      chk (0 = 0) <|
      chk ((List.replicate 1600 (0 : Int)).length = 1600) <|
      chk (t2.length = 1600) <|
      k0 (List.replicate 1600 (0 : Int))) (
      chk (0 ≤ b4') <|
      chk (b4' < 40) <|
      chk (0 ≤ b5') <|
      chk (b5' < 40) <|
      chk (((0 + (b4'.toNat * 40)) + (b5'.toNat * 1)) < t4.length) <|
      chk (0 ≤ b5') <|
      chk (b5' < 40) <|
      chk (0 ≤ b4') <|
      chk (b4' < 40) <|
      chk (((0 + (b5'.toNat * 40)) + (b4'.toNat * 1)) < (t4.set ((0 + (b4'.toNat * 40)) + (b5'.toNat * 1)) b6').length) <|
      next ((t4.set ((0 + (b4'.toNat * 40)) + (b5'.toNat * 1)) b6').set ((0 + (b5'.toNat * 40)) + (b4'.toNat * 1)) b6') (IntKind.i64.wrap (t33 + 1)))) (
    k1 t4)
def triple_third_l15 {ρ : Type} (n : Nat) (t2 : List Int) (t8 : List Int) (t25 : List (List Int)) (t26 : Int) (t27 : Int) (t31 : List Int) (t32 : Int) (t4 : List Int) (t33 : Int) (k0 : List Int → Option ρ) (k1 : List Int → Option ρ) : Option ρ :=
  iterM (fun (s : (List Int) × Int) nx => triple_third_s15 n t2 t8 t25 t26 t27 t31 t32 s.1 s.2 (fun a0 a1 => nx (a0, a1)) k0 k1) n (t4, t33)
def triple_third_s12 {ρ : Type} (n : Nat) (t2 : List Int) (t25 : List (List Int)) (t26 : Int) (t4 : List Int) (t27 : Int) (next : List Int → Int → Option ρ) (k0 : List Int → Option ρ) (k1 : List Int → Option ρ) : Option ρ :=
  brO (decide (t27 < t26)) (
    chk (0 ≤ t27) <|
    chk (t27 < (t25.length : Int)) <|
    bnd (t25[t27.toNat]?) fun r3' =>
    triple_third_l15 n t2 r3' t25 t26 t27 r3' (r3'.length : Int) t4 0 (fun x8' =>
      k0 x8') (fun x9' =>
      next x9' (IntKind.i64.wrap (t27 + 1)))) (
    k1 t4)
def triple_third_l12 {ρ : Type} (n : Nat) (t2 : List Int) (t25 : List (List Int)) (t26 : Int) (t4 : List Int) (t27 : Int) (k0 : List Int → Option ρ) (k1 : List Int → Option ρ) : Option ρ :=
  iterM (fun (s : (List Int) × Int) nx => triple_third_s12 n t2 t25 t26 s.1 s.2 (fun a0 a1 => nx (a0, a1)) k0 k1) n (t4, t27)
def triple_third (n : Nat) (toArray0 : List (List Int)) : Option ((List Int) × Bool) :=
  triple_third_l3 n toArray0 (List.replicate 1600 (0 : Int)) (List.replicate 1600 (0 : Int)) 0 (fun x2' =>
    triple_third_l12 n (List.replicate 1600 (0 : Int)) toArray0 (toArray0.length : Int) x2' 0 (fun x10' =>
      chk ((x10'.length == 1600) = true) <|
      some (x10', false)) (fun x11' =>
      chk (0 = 0) <|
      chk (x11'.length = 1600) <|
      chk (0 = 0) <|
      chk (x11'.length = 1600) <|
      chk ((List.replicate 1600 (0 : Int)).length = 1600) <|
      chk ((x11'.length == 1600) = true) <|
      some (x11', true)))
def triple_system_try_s2 {ρ : Type} (n : Nat) (R : List (List Int) → Int → List Int → Int → Int → Option (Bool × (List (List Int)) × Int × (List Int))) (t1 : List Int) (t2 : Int) (t3 : Int) (toArray0_0 : List (List Int)) (toArray0_1 : Int) (t9 : Int) (next : List (List Int) → Int → Int → Option ρ) (k0 : List (List Int) → Int → List Int → Option ρ) (k1 : List (List Int) → Int → Option ρ) : Option ρ :=
  brO (decide (t9 < toArray0_1)) (
    chk (0 ≤ t2) <|
    chk (t2 < 40) <|
    chk (0 ≤ t9) <|
    chk (t9 < 40) <|
    bnd (t1[((0 + (t2.toNat * 40)) + (t9.toNat * 1))]?) fun b1' =>
    brO (decide (b1' ≥ 0)) (
      next toArray0_0 toArray0_1 (IntKind.i64.wrap (t9 + 1))) (
      chk (0 ≤ t3) <|
      chk (t3 < 40) <|
      chk (0 ≤ t9) <|
      chk (t9 < 40) <|
      bnd (t1[((0 + (t3.toNat * 40)) + (t9.toNat * 1))]?) fun b2' =>
      brO (decide (b2' ≥ 0)) (
        next toArray0_0 toArray0_1 (IntKind.i64.wrap (t9 + 1))) (
        chk (0 = 0) <|
        chk (t1.length = 1600) <|
        chk (0 = 0) <|
        chk (t1.length = 1600) <|
        chk ((List.replicate 1600 (0 : Int)).length = 1600) <|
        chk (0 ≤ t2) <|
        chk (t2 < 40) <|
        chk (0 ≤ t3) <|
        chk (t3 < 40) <|
        chk (((0 + (t2.toNat * 40)) + (t3.toNat * 1)) < t1.length) <|
        chk (0 ≤ t2) <|
        chk (t2 < 40) <|
        chk (0 ≤ t9) <|
        chk (t9 < 40) <|
        chk (((0 + (t2.toNat * 40)) + (t9.toNat * 1)) < (t1.set ((0 + (t2.toNat * 40)) + (t3.toNat * 1)) t9).length) <|
        chk (0 ≤ t3) <|
        chk (t3 < 40) <|
        chk (0 ≤ t9) <|
        chk (t9 < 40) <|
        chk (((0 + (t3.toNat * 40)) + (t9.toNat * 1)) < ((t1.set ((0 + (t2.toNat * 40)) + (t3.toNat * 1)) t9).set ((0 + (t2.toNat * 40)) + (t9.toNat * 1)) t3).length) <|
        chk (0 ≤ t3) <|
        chk (t3 < 40) <|
        chk (0 ≤ t2) <|
        chk (t2 < 40) <|
        chk (((0 + (t3.toNat * 40)) + (t2.toNat * 1)) < (((t1.set ((0 + (t2.toNat * 40)) + (t3.toNat * 1)) t9).set ((0 + (t2.toNat * 40)) + (t9.toNat * 1)) t3).set ((0 + (t3.toNat * 40)) + (t9.toNat * 1)) t2).length) <|
        chk (0 ≤ t9) <|
        chk (t9 < 40) <|
        chk (0 ≤ t2) <|
        chk (t2 < 40) <|
        chk (((0 + (t9.toNat * 40)) + (t2.toNat * 1)) < ((((t1.set ((0 + (t2.toNat * 40)) + (t3.toNat * 1)) t9).set ((0 + (t2.toNat * 40)) + (t9.toNat * 1)) t3).set ((0 + (t3.toNat * 40)) + (t9.toNat * 1)) t2).set ((0 + (t3.toNat * 40)) + (t2.toNat * 1)) t9).length) <|
        chk (0 ≤ t9) <|
        chk (t9 < 40) <|
        chk (0 ≤ t3) <|
        chk (t3 < 40) <|
        chk (((0 + (t9.toNat * 40)) + (t3.toNat * 1)) < (((((t1.set ((0 + (t2.toNat * 40)) + (t3.toNat * 1)) t9).set ((0 + (t2.toNat * 40)) + (t9.toNat * 1)) t3).set ((0 + (t3.toNat * 40)) + (t9.toNat * 1)) t2).set ((0 + (t3.toNat * 40)) + (t2.toNat * 1)) t9).set ((0 + (t9.toNat * 40)) + (t2.toNat * 1)) t3).length) <|
        bnd (triple_lister_add n toArray0_0 toArray0_1 t2 t3 t9) fun z3' =>
        bnd (R z3'.1 z3'.2 ((((((t1.set ((0 + (t2.toNat * 40)) + (t3.toNat * 1)) t9).set ((0 + (t2.toNat * 40)) + (t9.toNat * 1)) t3).set ((0 + (t3.toNat * 40)) + (t9.toNat * 1)) t2).set ((0 + (t3.toNat * 40)) + (t2.toNat * 1)) t9).set ((0 + (t9.toNat * 40)) + (t2.toNat * 1)) t3).set ((0 + (t9.toNat * 40)) + (t3.toNat * 1)) t2) t2 t3) fun z4' =>
        brO z4'.1 (
          k0 z4'.2.1 z4'.2.2.1 z4'.2.2.2) (
          chk (0 = 0) <|
          chk (t1.length = 1600) <|
          chk (0 ≤ (toArray0_0.length : Int)) <|
          chk ((toArray0_0.length : Int) ≤ (z4'.2.1.length : Int)) <|
          chk (0 = 0) <|
          chk (t1.length = 1600) <|
          chk (z4'.2.2.2.length = 1600) <|
          next (z4'.2.1.take ((toArray0_0.length : Int).toNat)) z4'.2.2.1 (IntKind.i64.wrap (t9 + 1)))))) (
    k1 toArray0_0 toArray0_1)
def triple_system_try_l2 {ρ : Type} (n : Nat) (R : List (List Int) → Int → List Int → Int → Int → Option (Bool × (List (List Int)) × Int × (List Int))) (t1 : List Int) (t2 : Int) (t3 : Int) (toArray0_0 : List (List Int)) (toArray0_1 : Int) (t9 : Int) (k0 : List (List Int) → Int → List Int → Option ρ) (k1 : List (List Int) → Int → Option ρ) : Option ρ :=
  iterM (fun (s : (List (List Int)) × Int × Int) nx => triple_system_try_s2 n R t1 t2 t3 s.1 s.2.1 s.2.2 (fun a0 a1 a2 => nx (a0, a1, a2)) k0 k1) n (toArray0_0, toArray0_1, t9)
def triple_system_try (n : Nat) (R : List (List Int) → Int → List Int → Int → Int → Option (Bool × (List (List Int)) × Int × (List Int))) (toArray0_0 : List (List Int)) (toArray0_1 : Int) (t1 : List Int) (t2 : Int) (t3 : Int) : Option (Bool × (List (List Int)) × Int × (List Int)) :=
  triple_system_try_l2 n R t1 t2 t3 toArray0_0 toArray0_1 (IntKind.i64.wrap (t3 + 1)) (fun x5' x6' x7' =>
    some (true, x5', x6', x7')) (fun x8' x9' =>
    some (false, x8', x9', t1))
def triple_system_grow_s3 {ρ : Type} (n : Nat) (R : List (List Int) → Int → List Int → Int → Int → Option (Bool × (List (List Int)) × Int × (List Int))) (s_0_0 : List (List Int)) (s_0_1 : Int) (t1 : List Int) (p2 : Int) (q3 : Int) (next : Int → Option ρ) (k0 : Bool → List (List Int) → Int → List Int → Option ρ) (k1 : Option ρ) : Option ρ :=
  brO (decide (q3 < s_0_1)) (
    chk (0 ≤ p2) <|
    chk (p2 < 40) <|
    chk (0 ≤ q3) <|
    chk (q3 < 40) <|
    bnd (t1[((0 + (p2.toNat * 40)) + (q3.toNat * 1))]?) fun b1' =>
    brO (decide (b1' < 0)) (
      bnd (triple_system_try n R s_0_0 s_0_1 t1 p2 q3) fun z2' =>
      k0 z2'.1 z2'.2.1 z2'.2.2.1 z2'.2.2.2) (
      next (IntKind.i64.wrap (q3 + 1)))) (
    k1)
def triple_system_grow_l3 {ρ : Type} (n : Nat) (R : List (List Int) → Int → List Int → Int → Int → Option (Bool × (List (List Int)) × Int × (List Int))) (s_0_0 : List (List Int)) (s_0_1 : Int) (t1 : List Int) (p2 : Int) (q3 : Int) (k0 : Bool → List (List Int) → Int → List Int → Option ρ) (k1 : Option ρ) : Option ρ :=
  iterM (fun (s : Int) nx => triple_system_grow_s3 n R s_0_0 s_0_1 t1 p2 s nx k0 k1) n q3
def triple_system_grow_s1 {ρ : Type} (n : Nat) (R : List (List Int) → Int → List Int → Int → Int → Option (Bool × (List (List Int)) × Int × (List Int))) (s_0_0 : List (List Int)) (s_0_1 : Int) (t1 : List Int) (p2 : Int) (q3 : Int) (next : Int → Int → Option ρ) (k0 : Bool → List (List Int) → Int → List Int → Option ρ) (k1 : Option ρ) : Option ρ :=
  brO (decide (p2 < s_0_1)) (
    triple_system_grow_l3 n R s_0_0 s_0_1 t1 p2 q3 (fun x3' x4' x5' x6' =>
      k0 x3' x4' x5' x6') (
      next (IntKind.i64.wrap (p2 + 1)) (IntKind.i64.wrap (p2 + 2)))) (
    k1)
def triple_system_grow_l1 {ρ : Type} (n : Nat) (R : List (List Int) → Int → List Int → Int → Int → Option (Bool × (List (List Int)) × Int × (List Int))) (s_0_0 : List (List Int)) (s_0_1 : Int) (t1 : List Int) (p2 : Int) (q3 : Int) (k0 : Bool → List (List Int) → Int → List Int → Option ρ) (k1 : Option ρ) : Option ρ :=
  iterM (fun (s : Int × Int) nx => triple_system_grow_s1 n R s_0_0 s_0_1 t1 s.1 s.2 (fun a0 a1 => nx (a0, a1)) k0 k1) n (p2, q3)
def triple_system_grow_b (n : Nat) (R : List (List Int) → Int → List Int → Int → Int → Option (Bool × (List (List Int)) × Int × (List Int))) (s_0_0 : List (List Int)) (s_0_1 : Int) (t1 : List Int) (p2 : Int) (q3 : Int) : Option (Bool × (List (List Int)) × Int × (List Int)) :=
  triple_system_grow_l1 n R s_0_0 s_0_1 t1 p2 q3 (fun x7' x8' x9' x10' =>
    some (x7', x8', x9', x10')) (
    some (true, s_0_0, s_0_1, t1))
def triple_system_grow_r (n : Nat) : Nat → List (List Int) → Int → List Int → Int → Int → Option (Bool × (List (List Int)) × Int × (List Int))
  | 0 => fun _ _ _ _ _ => none
  | k + 1 => triple_system_grow_b n (triple_system_grow_r n k)
def triple_system_grow (n : Nat) : List (List Int) → Int → List Int → Int → Int → Option (Bool × (List (List Int)) × Int × (List Int)) := triple_system_grow_r n n
def cmp_isNaN_int (_n : Nat) (x0 : Int) : Option (Bool) :=
  some (x0 != x0)
def cmp_Compare_int (n : Nat) (x0 : Int) (y1 : Int) : Option (Int) :=
  bnd (cmp_isNaN_int n x0) fun z1' =>
  bnd (cmp_isNaN_int n y1) fun z2' =>
  brO z1' (
    brO z2' (
      some 0) (
      some (-1))) (
    brO z2' (
      some 1) (
      brO (decide (x0 < y1)) (
        some (-1)) (
        brO (decide (x0 > y1)) (
          some 1) (
          some 0))))
def slices_Compare_intint_s2 {ρ : Type} (n : Nat) (_s10 : List Int) (s21 : List Int) (t9 : List Int) (t10 : Int) (t11 : Int) (next : Int → Option ρ) (k0 : Option ρ) (k1 : Int → Option ρ) (k2 : Option ρ) : Option ρ :=
  brO (decide (t11 < t10)) (
    chk (0 ≤ t11) <|
    chk (t11 < (t9.length : Int)) <|
    bnd (t9[t11.toNat]?) fun b1' =>
    brO (decide (t11 ≥ (s21.length : Int))) (
      k0) (
      chk (0 ≤ t11) <|
      chk (t11 < (s21.length : Int)) <|
      bnd (s21[t11.toNat]?) fun b2' =>
      bnd (cmp_Compare_int n b1' b2') fun z3' =>
      brO (z3' != 0) (
        k1 z3') (
        next (IntKind.i64.wrap (t11 + 1))))) (
    k2)
def slices_Compare_intint_l2 {ρ : Type} (n : Nat) (s10 : List Int) (s21 : List Int) (t9 : List Int) (t10 : Int) (t11 : Int) (k0 : Option ρ) (k1 : Int → Option ρ) (k2 : Option ρ) : Option ρ :=
  iterM (fun (s : Int) nx => slices_Compare_intint_s2 n s10 s21 t9 t10 s nx k0 k1 k2) n t11
def slices_Compare_intint (n : Nat) (s10 : List Int) (s21 : List Int) : Option (Int) :=
  slices_Compare_intint_l2 n s10 s21 s10 (s10.length : Int) 0 (
    some 1) (fun x4' =>
    some x4') (
    brO (decide ((s10.length : Int) < (s21.length : Int))) (
      some (-1)) (
      some 0))
def triple_system_design_1 (n : Nat) (a0 : List Int) (b1 : List Int) : Option (Int) :=
  bnd (slices_Compare_intint n a0 b1) fun z1' =>
  some z1'

def triple_system_design (n : Nat) (s_0_0 : List (List Int)) (s_0_1 : Int) : Option (Int × (List (List Int)) × (List (List Int)) × Int) :=
  bnd (sortLm n s_0_0) fun z1' =>
  some (s_0_1, z1', z1', s_0_1)
def triple_Grow_s7 {ρ : Type} (n : Nat) (t2 : Int) (_t4_0 : Int) (_t4_1 : List (List Int)) (t27 : List (List Int)) (t28 : Int) (t6_0 : List (List Int)) (t6_1 : Int) (t29 : Int) (next : List (List Int) → Int → Int → Option ρ) (k0 : List (List Int) → Option ρ) (k1 : List (List Int) → Option ρ) (k2 : List (List Int) → Int → Option ρ) : Option ρ :=
  brO (decide (t29 < t28)) (
    chk (0 ≤ t29) <|
    chk (t29 < (t27.length : Int)) <|
    bnd (t27[t29.toNat]?) fun r1' =>
    bnd (slices_ContainsFunc_intint__triple_Grow_1 n r1' t2) fun z2' =>
    brO z2' (
      k0 ([])) (
      brO ((r1'.length : Int) != 3) (
        k1 ([])) (
        chk (0 ≤ (0 : Int)) <|
        chk ((0 : Int) < (r1'.length : Int)) <|
        bnd (r1'[0]?) fun b3' =>
        chk (0 ≤ (1 : Int)) <|
        chk ((1 : Int) < (r1'.length : Int)) <|
        bnd (r1'[1]?) fun b4' =>
        brO (decide (b3' ≥ b4')) (
          k1 ([])) (
          chk (0 ≤ (1 : Int)) <|
          chk ((1 : Int) < (r1'.length : Int)) <|
          bnd (r1'[1]?) fun b5' =>
          chk (0 ≤ (2 : Int)) <|
          chk ((2 : Int) < (r1'.length : Int)) <|
          bnd (r1'[2]?) fun b6' =>
          brO (decide (b5' ≥ b6')) (
            k1 ([])) (
            chk (0 ≤ (0 : Int)) <|
            chk ((0 : Int) < (r1'.length : Int)) <|
            bnd (r1'[0]?) fun b7' =>
            chk (0 ≤ (1 : Int)) <|
            chk ((1 : Int) < (r1'.length : Int)) <|
            bnd (r1'[1]?) fun b8' =>
            chk (0 ≤ (2 : Int)) <|
            chk ((2 : Int) < (r1'.length : Int)) <|
            bnd (r1'[2]?) fun b9' =>
            bnd (triple_lister_add n t6_0 t6_1 b7' b8' b9') fun z10' =>
            next z10'.1 z10'.2 (IntKind.i64.wrap (t29 + 1))))))) (
    k2 t6_0 t6_1)
def triple_Grow_l7 {ρ : Type} (n : Nat) (t2 : Int) (t4_0 : Int) (t4_1 : List (List Int)) (t27 : List (List Int)) (t28 : Int) (t6_0 : List (List Int)) (t6_1 : Int) (t29 : Int) (k0 : List (List Int) → Option ρ) (k1 : List (List Int) → Option ρ) (k2 : List (List Int) → Int → Option ρ) : Option ρ :=
  iterM (fun (s : (List (List Int)) × Int × Int) nx => triple_Grow_s7 n t2 t4_0 t4_1 t27 t28 s.1 s.2.1 s.2.2 (fun a0 a1 a2 => nx (a0, a1, a2)) k0 k1 k2) n (t6_0, t6_1, t29)
def triple_Grow (n : Nat) (toArray0 : Int) (t1 : List (List Int)) : Option (Int × (List (List Int)) × Int) :=
  brO (decide (toArray0 < 1)) (
    some (0, [], 1)) (
    brO (decide (toArray0 > 9)) (
      some (0, [], 1)) (
      brO (decide ((t1.length : Int) > 200)) (
        some (0, [], 3)) (
        triple_Grow_l7 n toArray0 0 ([]) t1 (t1.length : Int) ([]) toArray0 0 (fun x11' =>
          some (0, x11', 1)) (fun x12' =>
          some (0, x12', 2)) (fun x13' x14' =>
          bnd (triple_third n x13') fun z15' =>
          chk (0 = 0) <|
          chk (z15'.1.length = 1600) <|
          chk ((List.replicate 1600 (0 : Int)).length = 1600) <|
          brO (!z15'.2) (
            some (0, [], 6)) (
            bnd (triple_system_grow n x13' x14' z15'.1 0 1) fun z16' =>
            brO (!z16'.1) (
              some (0, [], 4)) (
              bnd (triple_system_design n z16'.2.1 z16'.2.2.1) fun z17' =>
              some (z17'.1, z17'.2.1, 0)))))))

def perm_Unrank_s6 {ρ : Type} (_n : Nat) (_toArray0 : Int) (_t1 : Int) (t18 : Int) (t6 : List Int) (t7 : Int) (t19 : Int) (next : List Int → Int → Int → Option ρ) (k0 : List Int → Int → Option ρ) : Option ρ :=
  brO (decide (t19 < t18)) (
    chk (3 = 3) <|
    chk ((t6 ++ [t19]).length < 2 ^ 40) <|
    next (t6 ++ [t19]) (IntKind.i64.wrap (t7 * (IntKind.i64.wrap (t19 + 1)))) (IntKind.i64.wrap (t19 + 1))) (
    k0 t6 t7)
def perm_Unrank_l6 {ρ : Type} (n : Nat) (toArray0 : Int) (t1 : Int) (t18 : Int) (t6 : List Int) (t7 : Int) (t19 : Int) (k0 : List Int → Int → Option ρ) : Option ρ :=
  iterM (fun (s : (List Int) × Int × Int) nx => perm_Unrank_s6 n toArray0 t1 t18 s.1 s.2.1 s.2.2 (fun a0 a1 a2 => nx (a0, a1, a2)) k0) n (t6, t7, t19)
def perm_Unrank_s15 {ρ : Type} (_n : Nat) (t1 : Int) (t6 : List Int) (t7 : Int) (t9 : List Int) (t10 : Int) (next : Int → List Int → Int → List Int → Int → Option ρ) (k0 : List Int → Option ρ) : Option ρ :=
  brO (decide (t10 > 0)) (
    if t10 = 0 then none else
    if (IntKind.i64.wrap (t7.tdiv t10)) = 0 then none else
    if (IntKind.i64.wrap (t7.tdiv t10)) = 0 then none else
    chk (0 ≤ (IntKind.i64.wrap (t1.tdiv (IntKind.i64.wrap (t7.tdiv t10))))) <|
    chk ((IntKind.i64.wrap (t1.tdiv (IntKind.i64.wrap (t7.tdiv t10)))) < (t6.length : Int)) <|
    bnd (t6[(IntKind.i64.wrap (t1.tdiv (IntKind.i64.wrap (t7.tdiv t10)))).toNat]?) fun b3' =>
    chk (3 = 3) <|
    chk ((t9 ++ [b3']).length < 2 ^ 40) <|
    bnd (deleteIm t6 (IntKind.i64.wrap (t1.tdiv (IntKind.i64.wrap (t7.tdiv t10)))) (IntKind.i64.wrap ((IntKind.i64.wrap (t1.tdiv (IntKind.i64.wrap (t7.tdiv t10)))) + 1))) fun z4' =>
    next (t1.tmod (IntKind.i64.wrap (t7.tdiv t10))) z4' (IntKind.i64.wrap (t7.tdiv t10)) (t9 ++ [b3']) (IntKind.i64.wrap (t10 - 1))) (
    k0 t9)
def perm_Unrank_l15 {ρ : Type} (n : Nat) (t1 : Int) (t6 : List Int) (t7 : Int) (t9 : List Int) (t10 : Int) (k0 : List Int → Option ρ) : Option ρ :=
  iterM (fun (s : Int × (List Int) × Int × (List Int) × Int) nx => perm_Unrank_s15 n s.1 s.2.1 s.2.2.1 s.2.2.2.1 s.2.2.2.2 (fun a0 a1 a2 a3 a4 => nx (a0, a1, a2, a3, a4)) k0) n (t1, t6, t7, t9, t10)
def perm_Unrank (n : Nat) (toArray0 : Int) (t1 : Int) : Option ((List Int) × Int) :=
  brO (decide (toArray0 < 0)) (
    some ([], 1)) (
    brO (decide (toArray0 > 12)) (
      some ([], 1)) (
      perm_Unrank_l6 n toArray0 t1 toArray0 ([]) 1 0 (fun x1' x2' =>
        brO (decide (t1 < 0)) (
          some ([], 1)) (
          brO (decide (t1 ≥ x2')) (
            some ([], 1)) (
            perm_Unrank_l15 n t1 x1' x2' ([]) toArray0 (fun x5' =>
              some (x5', 0)))))))
def latin_side (_n : Nat) (n_0 : Int) : Option (Bool) :=
  brO (decide (n_0 ≥ 1)) (
    some (decide (n_0 ≤ 8))) (
    some false)
def latin_Check_1 (_n : Nat) (c_0 : Int) (t1 : Int) : Option (Bool) :=
  brO (decide (c_0 < 0)) (
    some true) (
    some (decide (c_0 ≥ t1)))
def slices_IndexFunc_intint__latin_Check_1_s2 {ρ : Type} (n : Nat) (s_0 : List Int) (f1 : Int) (t7 : Int) (t8 : Int) (next : Int → Option ρ) (k0 : Int → Option ρ) (k1 : Option ρ) : Option ρ :=
  brO (decide (t8 < t7)) (
    chk (0 ≤ t8) <|
    chk (t8 < (s_0.length : Int)) <|
    bnd (s_0[t8.toNat]?) fun b1' =>
    bnd (latin_Check_1 n b1' f1) fun z2' =>
    brO z2' (
      k0 t8) (
      next (IntKind.i64.wrap (t8 + 1)))) (
    k1)
def slices_IndexFunc_intint__latin_Check_1_l2 {ρ : Type} (n : Nat) (s_0 : List Int) (f1 : Int) (t7 : Int) (t8 : Int) (k0 : Int → Option ρ) (k1 : Option ρ) : Option ρ :=
  iterM (fun (s : Int) nx => slices_IndexFunc_intint__latin_Check_1_s2 n s_0 f1 t7 s nx k0 k1) n t8
def slices_IndexFunc_intint__latin_Check_1 (n : Nat) (s_0 : List Int) (f1 : Int) : Option (Int) :=
  slices_IndexFunc_intint__latin_Check_1_l2 n s_0 f1 (s_0.length : Int) 0 (fun x3' =>
    some x3') (
    some (-1))
def slices_ContainsFunc_intint__latin_Check_1 (n : Nat) (s_0 : List Int) (f1 : Int) : Option (Bool) :=
  bnd (slices_IndexFunc_intint__latin_Check_1 n s_0 f1) fun z1' =>
  some (decide (z1' ≥ 0))
def latin_twice_s3 {ρ : Type} (_n : Nat) (n_0 : Int) (t9 : List Int) (t10 : Int) (rows5 : List Bool) (columns6 : List Bool) (t11 : Int) (next : List Bool → List Bool → Int → Option ρ) (k0 : Option ρ) (k1 : Option ρ) : Option ρ :=
  brO (decide (t11 < t10)) (
    chk (0 ≤ t11) <|
    chk (t11 < (t9.length : Int)) <|
    bnd (t9[t11.toNat]?) fun b1' =>
    if n_0 = 0 then none else
    chk (0 ≤ (IntKind.i64.wrap (t11.tdiv n_0))) <|
    chk ((IntKind.i64.wrap (t11.tdiv n_0)) < 8) <|
    chk (0 ≤ b1') <|
    chk (b1' < 8) <|
    bnd (rows5[((0 + ((IntKind.i64.wrap (t11.tdiv n_0)).toNat * 8)) + (b1'.toNat * 1))]?) fun b2' =>
    brO b2' (
      k0) (
      if n_0 = 0 then none else
      chk (0 ≤ (t11.tmod n_0)) <|
      chk ((t11.tmod n_0) < 8) <|
      chk (0 ≤ b1') <|
      chk (b1' < 8) <|
      bnd (columns6[((0 + ((t11.tmod n_0).toNat * 8)) + (b1'.toNat * 1))]?) fun b3' =>
      brO b3' (
        k0) (
        if n_0 = 0 then none else
        if n_0 = 0 then none else
        chk (0 ≤ (IntKind.i64.wrap (t11.tdiv n_0))) <|
        chk ((IntKind.i64.wrap (t11.tdiv n_0)) < 8) <|
        chk (0 ≤ b1') <|
        chk (b1' < 8) <|
        chk (((0 + ((IntKind.i64.wrap (t11.tdiv n_0)).toNat * 8)) + (b1'.toNat * 1)) < rows5.length) <|
        chk (0 ≤ (t11.tmod n_0)) <|
        chk ((t11.tmod n_0) < 8) <|
        chk (0 ≤ b1') <|
        chk (b1' < 8) <|
        chk (((0 + ((t11.tmod n_0).toNat * 8)) + (b1'.toNat * 1)) < columns6.length) <|
        next (rows5.set ((0 + ((IntKind.i64.wrap (t11.tdiv n_0)).toNat * 8)) + (b1'.toNat * 1)) true) (columns6.set ((0 + ((t11.tmod n_0).toNat * 8)) + (b1'.toNat * 1)) true) (IntKind.i64.wrap (t11 + 1))))) (
    k1)
def latin_twice_l3 {ρ : Type} (n : Nat) (n_0 : Int) (t9 : List Int) (t10 : Int) (rows5 : List Bool) (columns6 : List Bool) (t11 : Int) (k0 : Option ρ) (k1 : Option ρ) : Option ρ :=
  iterM (fun (s : (List Bool) × (List Bool) × Int) nx => latin_twice_s3 n n_0 t9 t10 s.1 s.2.1 s.2.2 (fun a0 a1 a2 => nx (a0, a1, a2)) k0 k1) n (rows5, columns6, t11)
def latin_twice (n : Nat) (n_0 : Int) (cells1 : List Int) : Option (Bool) :=
  latin_twice_l3 n n_0 cells1 (cells1.length : Int) (List.replicate 64 false) (List.replicate 64 false) 0 (
    some true) (
    some false)
def latin_Check (n : Nat) (s_0_0 : Int) (s_0_1 : List Int) : Option (Int) :=
  bnd (latin_side n s_0_0) fun z1' =>
  brO (!z1') (
    some 1) (
    brO ((s_0_1.length : Int) != (IntKind.i64.wrap (s_0_0 * s_0_0))) (
      some 2) (
      bnd (slices_ContainsFunc_intint__latin_Check_1 n s_0_1 s_0_0) fun z2' =>
      brO z2' (
        some 1) (
        bnd (latin_twice n s_0_0 s_0_1) fun z3' =>
        brO z3' (
          some 6) (
          some 0))))
def quasi_open_s5 {ρ : Type} (_n : Nat) (_s_2_0 : Int) (_s_2_1 : List Int) (_t4 : List Int) (t19 : Int) (t20 : Int) (_next : Unit → Option ρ) (k0 : Option ρ) : Option ρ :=
  brO (decide (t20 < t19)) (
    none) (
    k0)
def quasi_open_l5 {ρ : Type} (n : Nat) (s_2_0 : Int) (s_2_1 : List Int) (t4 : List Int) (t19 : Int) (t20 : Int) (k0 : Option ρ) : Option ρ :=
  iterM (fun (s : Unit) nx => quasi_open_s5 n s_2_0 s_2_1 t4 t19 t20 nx k0) n ()
def quasi_open_s12 {ρ : Type} (_n : Nat) (_t4 : List Int) (t38 : List Int) (t39 : Int) (t9 : List Int) (t40 : Int) (next : List Int → Int → Option ρ) (k0 : List Int → Option ρ) : Option ρ :=
  brO (decide (t40 < t39)) (
    chk (0 ≤ t40) <|
    chk (t40 < (t38.length : Int)) <|
    bnd (t38[t40.toNat]?) fun b2' =>
    bnd (t9[0]?) fun b3' =>
    if b3' = 0 then none else
    bnd (t9[0]?) fun b4' =>
    if b4' = 0 then none else
    chk (0 ≤ (IntKind.i64.wrap (t40.tdiv b3'))) <|
    chk ((IntKind.i64.wrap (t40.tdiv b3')) < 8) <|
    chk (0 ≤ (t40.tmod b4')) <|
    chk ((t40.tmod b4') < 8) <|
    chk (((1 + ((IntKind.i64.wrap (t40.tdiv b3')).toNat * 8)) + ((t40.tmod b4').toNat * 1)) < t9.length) <|
    next (t9.set ((1 + ((IntKind.i64.wrap (t40.tdiv b3')).toNat * 8)) + ((t40.tmod b4').toNat * 1)) b2') (IntKind.i64.wrap (t40 + 1))) (
    k0 t9)
def quasi_open_l12 {ρ : Type} (n : Nat) (t4 : List Int) (t38 : List Int) (t39 : Int) (t9 : List Int) (t40 : Int) (k0 : List Int → Option ρ) : Option ρ :=
  iterM (fun (s : (List Int) × Int) nx => quasi_open_s12 n t4 t38 t39 s.1 s.2 (fun a0 a1 => nx (a0, a1)) k0) n (t9, t40)
def quasi_open (n : Nat) (s_0_0 : Int) (s_0_1 : List Int) : Option ((List Int) × Int) :=
  bnd (latin_Check n s_0_0 s_0_1) fun z1' =>
  brO (z1' != 0) (
    chk (0 = 0) <|
    chk ((List.replicate 65 (0 : Int)).length = 65) <|
    chk ((List.replicate 65 (0 : Int)).length = 65) <|
    chk (((List.replicate 65 (0 : Int)).length == 65) = true) <|
    some ((List.replicate 65 (0 : Int)), z1')) (
    quasi_open_l5 n s_0_0 s_0_1 (List.replicate 65 (0 : Int)) 0 0 (
      chk (0 = 0) <|
      chk (((List.replicate 65 (0 : Int)).set 0 s_0_0).length = 65) <|
      chk ((List.replicate 65 (0 : Int)).length = 65) <|
      quasi_open_l12 n (List.replicate 65 (0 : Int)) s_0_1 (s_0_1.length : Int) ((List.replicate 65 (0 : Int)).set 0 s_0_0) 0 (fun x5' =>
        chk (0 = 0) <|
        chk (x5'.length = 65) <|
        chk (0 = 0) <|
        chk (x5'.length = 65) <|
        chk ((List.replicate 65 (0 : Int)).length = 65) <|
        chk ((x5'.length == 65) = true) <|
        some (x5', 0))))
def quasi_Commutes_1 (_n : Nat) (x0 : Int) (y1 : Int) (_t2 : Int) (t3 : List Int) : Option (Bool) :=
  chk (0 ≤ x0) <|
  chk (x0 < 8) <|
  chk (0 ≤ y1) <|
  chk (y1 < 8) <|
  bnd (t3[((1 + (x0.toNat * 8)) + (y1.toNat * 1))]?) fun b1' =>
  chk (0 ≤ y1) <|
  chk (y1 < 8) <|
  chk (0 ≤ x0) <|
  chk (x0 < 8) <|
  bnd (t3[((1 + (y1.toNat * 8)) + (x0.toNat * 1))]?) fun b2' =>
  some (b1' == b2')
def quasi_table_all__quasi_Commutes_1_s3 {ρ : Type} (_n : Nat) (_is1 : List Int) (t3 : List Int) (t13 : Int) (most7 : List Int) (t14 : Int) (next : List Int → Int → Option ρ) (k0 : List Int → Option ρ) : Option ρ :=
  brO (decide (t14 < t13)) (
    bnd (t3[0]?) fun b1' =>
    chk (0 ≤ t14) <|
    chk (t14 < 3) <|
    chk ((0 + (t14.toNat * 1)) < most7.length) <|
    next (most7.set (0 + (t14.toNat * 1)) b1') (IntKind.i64.wrap (t14 + 1))) (
    k0 most7)
def quasi_table_all__quasi_Commutes_1_l3 {ρ : Type} (n : Nat) (is1 : List Int) (t3 : List Int) (t13 : Int) (most7 : List Int) (t14 : Int) (k0 : List Int → Option ρ) : Option ρ :=
  iterM (fun (s : (List Int) × Int) nx => quasi_table_all__quasi_Commutes_1_s3 n is1 t3 t13 s.1 s.2 (fun a0 a1 => nx (a0, a1)) k0) n (most7, t14)
def quasi_table_all__quasi_Commutes_1_s14 {ρ : Type} (n : Nat) (is1 : List Int) (_most7 : List Int) (x9 : Int) (y10 : Int) (_t23 : Int) (_t24 : Int) (_t28 : Int) (_t29 : Int) (t33 : Int) (t34 : Int) (next : Int → Option ρ) (k0 : Option ρ) (k1 : Option ρ) : Option ρ :=
  brO (decide (t34 < t33)) (
    bnd (quasi_Commutes_1 n x9 y10 t34 is1) fun z6' =>
    brO (!z6') (
      k0) (
      next (IntKind.i64.wrap (t34 + 1)))) (
    k1)
def quasi_table_all__quasi_Commutes_1_l14 {ρ : Type} (n : Nat) (is1 : List Int) (most7 : List Int) (x9 : Int) (y10 : Int) (t23 : Int) (t24 : Int) (t28 : Int) (t29 : Int) (t33 : Int) (t34 : Int) (k0 : Option ρ) (k1 : Option ρ) : Option ρ :=
  iterM (fun (s : Int) nx => quasi_table_all__quasi_Commutes_1_s14 n is1 most7 x9 y10 t23 t24 t28 t29 t33 s nx k0 k1) n t34
def quasi_table_all__quasi_Commutes_1_s11 {ρ : Type} (n : Nat) (is1 : List Int) (most7 : List Int) (x9 : Int) (t23 : Int) (t24 : Int) (t28 : Int) (t29 : Int) (next : Int → Option ρ) (k0 : Option ρ) (k1 : Option ρ) : Option ρ :=
  brO (decide (t29 < t28)) (
    chk (0 ≤ (2 : Int)) <|
    chk ((2 : Int) < 3) <|
    bnd (most7[2]?) fun b5' =>
    quasi_table_all__quasi_Commutes_1_l14 n is1 most7 x9 t29 t23 t24 t28 t29 b5' 0 (
      k0) (
      next (IntKind.i64.wrap (t29 + 1)))) (
    k1)
def quasi_table_all__quasi_Commutes_1_l11 {ρ : Type} (n : Nat) (is1 : List Int) (most7 : List Int) (x9 : Int) (t23 : Int) (t24 : Int) (t28 : Int) (t29 : Int) (k0 : Option ρ) (k1 : Option ρ) : Option ρ :=
  iterM (fun (s : Int) nx => quasi_table_all__quasi_Commutes_1_s11 n is1 most7 x9 t23 t24 t28 s nx k0 k1) n t29
def quasi_table_all__quasi_Commutes_1_s8 {ρ : Type} (n : Nat) (is1 : List Int) (most7 : List Int) (t23 : Int) (t24 : Int) (next : Int → Option ρ) (k0 : Option ρ) (k1 : Option ρ) : Option ρ :=
  brO (decide (t24 < t23)) (
    chk (0 ≤ (1 : Int)) <|
    chk ((1 : Int) < 3) <|
    bnd (most7[1]?) fun b4' =>
    quasi_table_all__quasi_Commutes_1_l11 n is1 most7 t24 t23 t24 b4' 0 (
      k0) (
      next (IntKind.i64.wrap (t24 + 1)))) (
    k1)
def quasi_table_all__quasi_Commutes_1_l8 {ρ : Type} (n : Nat) (is1 : List Int) (most7 : List Int) (t23 : Int) (t24 : Int) (k0 : Option ρ) (k1 : Option ρ) : Option ρ :=
  iterM (fun (s : Int) nx => quasi_table_all__quasi_Commutes_1_s8 n is1 most7 t23 s nx k0 k1) n t24
def quasi_table_all__quasi_Commutes_1 (n : Nat) (t0 : List Int) (is1 : List Int) (many2 : Int) : Option (Bool) :=
  chk (0 = 0) <|
  chk (((((List.replicate 3 (0 : Int)).set 0 1).set 1 1).set 2 1).length = 3) <|
  chk ((List.replicate 3 (0 : Int)).length = 3) <|
  quasi_table_all__quasi_Commutes_1_l3 n is1 t0 many2 ((((List.replicate 3 (0 : Int)).set 0 1).set 1 1).set 2 1) 0 (fun x2' =>
    chk (0 ≤ (0 : Int)) <|
    chk ((0 : Int) < 3) <|
    bnd (x2'[0]?) fun b3' =>
    quasi_table_all__quasi_Commutes_1_l8 n is1 x2' b3' 0 (
      some false) (
      some true))
def quasi_Commutes (n : Nat) (s_0_0 : Int) (s_0_1 : List Int) : Option (Bool × Int) :=
  bnd (quasi_open n s_0_0 s_0_1) fun z1' =>
  chk (0 = 0) <|
  chk (z1'.1.length = 65) <|
  chk ((List.replicate 65 (0 : Int)).length = 65) <|
  brO (z1'.2 == 0) (
    chk (0 = 0) <|
    chk (z1'.1.length = 65) <|
    bnd (quasi_table_all__quasi_Commutes_1 n z1'.1 z1'.1 2) fun z2' =>
    some (z2', z1'.2)) (
    some (false, z1'.2))
def quasi_Idempotent_1 (_n : Nat) (x0 : Int) (_t1 : Int) (_t2 : Int) (t3 : List Int) : Option (Bool) :=
  chk (0 ≤ x0) <|
  chk (x0 < 8) <|
  chk (0 ≤ x0) <|
  chk (x0 < 8) <|
  bnd (t3[((1 + (x0.toNat * 8)) + (x0.toNat * 1))]?) fun b1' =>
  some (b1' == x0)
def quasi_table_all__quasi_Idempotent_1_s3 {ρ : Type} (_n : Nat) (_is1 : List Int) (t3 : List Int) (t13 : Int) (most7 : List Int) (t14 : Int) (next : List Int → Int → Option ρ) (k0 : List Int → Option ρ) : Option ρ :=
  brO (decide (t14 < t13)) (
    bnd (t3[0]?) fun b1' =>
    chk (0 ≤ t14) <|
    chk (t14 < 3) <|
    chk ((0 + (t14.toNat * 1)) < most7.length) <|
    next (most7.set (0 + (t14.toNat * 1)) b1') (IntKind.i64.wrap (t14 + 1))) (
    k0 most7)
def quasi_table_all__quasi_Idempotent_1_l3 {ρ : Type} (n : Nat) (is1 : List Int) (t3 : List Int) (t13 : Int) (most7 : List Int) (t14 : Int) (k0 : List Int → Option ρ) : Option ρ :=
  iterM (fun (s : (List Int) × Int) nx => quasi_table_all__quasi_Idempotent_1_s3 n is1 t3 t13 s.1 s.2 (fun a0 a1 => nx (a0, a1)) k0) n (most7, t14)
def quasi_table_all__quasi_Idempotent_1_s14 {ρ : Type} (n : Nat) (is1 : List Int) (_most7 : List Int) (x9 : Int) (y10 : Int) (_t23 : Int) (_t24 : Int) (_t28 : Int) (_t29 : Int) (t33 : Int) (t34 : Int) (next : Int → Option ρ) (k0 : Option ρ) (k1 : Option ρ) : Option ρ :=
  brO (decide (t34 < t33)) (
    bnd (quasi_Idempotent_1 n x9 y10 t34 is1) fun z6' =>
    brO (!z6') (
      k0) (
      next (IntKind.i64.wrap (t34 + 1)))) (
    k1)
def quasi_table_all__quasi_Idempotent_1_l14 {ρ : Type} (n : Nat) (is1 : List Int) (most7 : List Int) (x9 : Int) (y10 : Int) (t23 : Int) (t24 : Int) (t28 : Int) (t29 : Int) (t33 : Int) (t34 : Int) (k0 : Option ρ) (k1 : Option ρ) : Option ρ :=
  iterM (fun (s : Int) nx => quasi_table_all__quasi_Idempotent_1_s14 n is1 most7 x9 y10 t23 t24 t28 t29 t33 s nx k0 k1) n t34
def quasi_table_all__quasi_Idempotent_1_s11 {ρ : Type} (n : Nat) (is1 : List Int) (most7 : List Int) (x9 : Int) (t23 : Int) (t24 : Int) (t28 : Int) (t29 : Int) (next : Int → Option ρ) (k0 : Option ρ) (k1 : Option ρ) : Option ρ :=
  brO (decide (t29 < t28)) (
    chk (0 ≤ (2 : Int)) <|
    chk ((2 : Int) < 3) <|
    bnd (most7[2]?) fun b5' =>
    quasi_table_all__quasi_Idempotent_1_l14 n is1 most7 x9 t29 t23 t24 t28 t29 b5' 0 (
      k0) (
      next (IntKind.i64.wrap (t29 + 1)))) (
    k1)
def quasi_table_all__quasi_Idempotent_1_l11 {ρ : Type} (n : Nat) (is1 : List Int) (most7 : List Int) (x9 : Int) (t23 : Int) (t24 : Int) (t28 : Int) (t29 : Int) (k0 : Option ρ) (k1 : Option ρ) : Option ρ :=
  iterM (fun (s : Int) nx => quasi_table_all__quasi_Idempotent_1_s11 n is1 most7 x9 t23 t24 t28 s nx k0 k1) n t29
def quasi_table_all__quasi_Idempotent_1_s8 {ρ : Type} (n : Nat) (is1 : List Int) (most7 : List Int) (t23 : Int) (t24 : Int) (next : Int → Option ρ) (k0 : Option ρ) (k1 : Option ρ) : Option ρ :=
  brO (decide (t24 < t23)) (
    chk (0 ≤ (1 : Int)) <|
    chk ((1 : Int) < 3) <|
    bnd (most7[1]?) fun b4' =>
    quasi_table_all__quasi_Idempotent_1_l11 n is1 most7 t24 t23 t24 b4' 0 (
      k0) (
      next (IntKind.i64.wrap (t24 + 1)))) (
    k1)
def quasi_table_all__quasi_Idempotent_1_l8 {ρ : Type} (n : Nat) (is1 : List Int) (most7 : List Int) (t23 : Int) (t24 : Int) (k0 : Option ρ) (k1 : Option ρ) : Option ρ :=
  iterM (fun (s : Int) nx => quasi_table_all__quasi_Idempotent_1_s8 n is1 most7 t23 s nx k0 k1) n t24
def quasi_table_all__quasi_Idempotent_1 (n : Nat) (t0 : List Int) (is1 : List Int) (many2 : Int) : Option (Bool) :=
  chk (0 = 0) <|
  chk (((((List.replicate 3 (0 : Int)).set 0 1).set 1 1).set 2 1).length = 3) <|
  chk ((List.replicate 3 (0 : Int)).length = 3) <|
  quasi_table_all__quasi_Idempotent_1_l3 n is1 t0 many2 ((((List.replicate 3 (0 : Int)).set 0 1).set 1 1).set 2 1) 0 (fun x2' =>
    chk (0 ≤ (0 : Int)) <|
    chk ((0 : Int) < 3) <|
    bnd (x2'[0]?) fun b3' =>
    quasi_table_all__quasi_Idempotent_1_l8 n is1 x2' b3' 0 (
      some false) (
      some true))
def quasi_Idempotent (n : Nat) (s_0_0 : Int) (s_0_1 : List Int) : Option (Bool × Int) :=
  bnd (quasi_open n s_0_0 s_0_1) fun z1' =>
  chk (0 = 0) <|
  chk (z1'.1.length = 65) <|
  chk ((List.replicate 65 (0 : Int)).length = 65) <|
  brO (z1'.2 == 0) (
    chk (0 = 0) <|
    chk (z1'.1.length = 65) <|
    bnd (quasi_table_all__quasi_Idempotent_1 n z1'.1 z1'.1 1) fun z2' =>
    some (z2', z1'.2)) (
    some (false, z1'.2))
def quasi_table_closed_1 (_n : Nat) (x0 : Int) (y1 : Int) (_t2 : Int) (t3 : Int) (t4 : List Int) : Option (Bool) :=
  if x0 < 0 then none else
  brO ((IntKind.i64.wrap ((BitVec.ofInt 64 (Int.fdiv t3 (2 ^ (min x0.toNat 64))) &&& BitVec.ofInt 64 1).toNat : Int)) == 0) (
    some true) (
    if y1 < 0 then none else
    brO ((IntKind.i64.wrap ((BitVec.ofInt 64 (Int.fdiv t3 (2 ^ (min y1.toNat 64))) &&& BitVec.ofInt 64 1).toNat : Int)) == 0) (
      some true) (
      chk (0 ≤ x0) <|
      chk (x0 < 8) <|
      chk (0 ≤ y1) <|
      chk (y1 < 8) <|
      bnd (t4[((1 + (x0.toNat * 8)) + (y1.toNat * 1))]?) fun b1' =>
      if b1' < 0 then none else
      some ((IntKind.i64.wrap ((BitVec.ofInt 64 (Int.fdiv t3 (2 ^ (min b1'.toNat 64))) &&& BitVec.ofInt 64 1).toNat : Int)) == 1)))
def quasi_table_all__quasi_table_closed_1_s3 {ρ : Type} (_n : Nat) (_is1_0 : Int) (_is1_1 : List Int) (t3 : List Int) (t13 : Int) (most7 : List Int) (t14 : Int) (next : List Int → Int → Option ρ) (k0 : List Int → Option ρ) : Option ρ :=
  brO (decide (t14 < t13)) (
    bnd (t3[0]?) fun b1' =>
    chk (0 ≤ t14) <|
    chk (t14 < 3) <|
    chk ((0 + (t14.toNat * 1)) < most7.length) <|
    next (most7.set (0 + (t14.toNat * 1)) b1') (IntKind.i64.wrap (t14 + 1))) (
    k0 most7)
def quasi_table_all__quasi_table_closed_1_l3 {ρ : Type} (n : Nat) (is1_0 : Int) (is1_1 : List Int) (t3 : List Int) (t13 : Int) (most7 : List Int) (t14 : Int) (k0 : List Int → Option ρ) : Option ρ :=
  iterM (fun (s : (List Int) × Int) nx => quasi_table_all__quasi_table_closed_1_s3 n is1_0 is1_1 t3 t13 s.1 s.2 (fun a0 a1 => nx (a0, a1)) k0) n (most7, t14)
def quasi_table_all__quasi_table_closed_1_s14 {ρ : Type} (n : Nat) (is1_0 : Int) (is1_1 : List Int) (_most7 : List Int) (x9 : Int) (y10 : Int) (_t23 : Int) (_t24 : Int) (_t28 : Int) (_t29 : Int) (t33 : Int) (t34 : Int) (next : Int → Option ρ) (k0 : Option ρ) (k1 : Option ρ) : Option ρ :=
  brO (decide (t34 < t33)) (
    bnd (quasi_table_closed_1 n x9 y10 t34 is1_0 is1_1) fun z6' =>
    brO (!z6') (
      k0) (
      next (IntKind.i64.wrap (t34 + 1)))) (
    k1)
def quasi_table_all__quasi_table_closed_1_l14 {ρ : Type} (n : Nat) (is1_0 : Int) (is1_1 : List Int) (most7 : List Int) (x9 : Int) (y10 : Int) (t23 : Int) (t24 : Int) (t28 : Int) (t29 : Int) (t33 : Int) (t34 : Int) (k0 : Option ρ) (k1 : Option ρ) : Option ρ :=
  iterM (fun (s : Int) nx => quasi_table_all__quasi_table_closed_1_s14 n is1_0 is1_1 most7 x9 y10 t23 t24 t28 t29 t33 s nx k0 k1) n t34
def quasi_table_all__quasi_table_closed_1_s11 {ρ : Type} (n : Nat) (is1_0 : Int) (is1_1 : List Int) (most7 : List Int) (x9 : Int) (t23 : Int) (t24 : Int) (t28 : Int) (t29 : Int) (next : Int → Option ρ) (k0 : Option ρ) (k1 : Option ρ) : Option ρ :=
  brO (decide (t29 < t28)) (
    chk (0 ≤ (2 : Int)) <|
    chk ((2 : Int) < 3) <|
    bnd (most7[2]?) fun b5' =>
    quasi_table_all__quasi_table_closed_1_l14 n is1_0 is1_1 most7 x9 t29 t23 t24 t28 t29 b5' 0 (
      k0) (
      next (IntKind.i64.wrap (t29 + 1)))) (
    k1)
def quasi_table_all__quasi_table_closed_1_l11 {ρ : Type} (n : Nat) (is1_0 : Int) (is1_1 : List Int) (most7 : List Int) (x9 : Int) (t23 : Int) (t24 : Int) (t28 : Int) (t29 : Int) (k0 : Option ρ) (k1 : Option ρ) : Option ρ :=
  iterM (fun (s : Int) nx => quasi_table_all__quasi_table_closed_1_s11 n is1_0 is1_1 most7 x9 t23 t24 t28 s nx k0 k1) n t29
def quasi_table_all__quasi_table_closed_1_s8 {ρ : Type} (n : Nat) (is1_0 : Int) (is1_1 : List Int) (most7 : List Int) (t23 : Int) (t24 : Int) (next : Int → Option ρ) (k0 : Option ρ) (k1 : Option ρ) : Option ρ :=
  brO (decide (t24 < t23)) (
    chk (0 ≤ (1 : Int)) <|
    chk ((1 : Int) < 3) <|
    bnd (most7[1]?) fun b4' =>
    quasi_table_all__quasi_table_closed_1_l11 n is1_0 is1_1 most7 t24 t23 t24 b4' 0 (
      k0) (
      next (IntKind.i64.wrap (t24 + 1)))) (
    k1)
def quasi_table_all__quasi_table_closed_1_l8 {ρ : Type} (n : Nat) (is1_0 : Int) (is1_1 : List Int) (most7 : List Int) (t23 : Int) (t24 : Int) (k0 : Option ρ) (k1 : Option ρ) : Option ρ :=
  iterM (fun (s : Int) nx => quasi_table_all__quasi_table_closed_1_s8 n is1_0 is1_1 most7 t23 s nx k0 k1) n t24
def quasi_table_all__quasi_table_closed_1 (n : Nat) (t0 : List Int) (is1_0 : Int) (is1_1 : List Int) (many2 : Int) : Option (Bool) :=
  chk (0 = 0) <|
  chk (((((List.replicate 3 (0 : Int)).set 0 1).set 1 1).set 2 1).length = 3) <|
  chk ((List.replicate 3 (0 : Int)).length = 3) <|
  quasi_table_all__quasi_table_closed_1_l3 n is1_0 is1_1 t0 many2 ((((List.replicate 3 (0 : Int)).set 0 1).set 1 1).set 2 1) 0 (fun x2' =>
    chk (0 ≤ (0 : Int)) <|
    chk ((0 : Int) < 3) <|
    bnd (x2'[0]?) fun b3' =>
    quasi_table_all__quasi_table_closed_1_l8 n is1_0 is1_1 x2' b3' 0 (
      some false) (
      some true))
def quasi_table_closed (n : Nat) (t0 : List Int) (set1 : Int) : Option (Bool) :=
  chk (0 = 0) <|
  chk (t0.length = 65) <|
  bnd (quasi_table_all__quasi_table_closed_1 n t0 set1 t0 2) fun z1' =>
  some z1'
def quasi_Parts_s6 {ρ : Type} (n : Nat) (t4 : List Int) (count6 : Int) (set7 : Int) (next : Int → Int → Option ρ) (k0 : Int → Option ρ) : Option ρ :=
  bnd (t4[0]?) fun b2' =>
  if b2' < 0 then none else
  brO (decide (set7 < (IntKind.i64.wrap (1 * 2 ^ (min b2'.toNat 64))))) (
    chk (0 = 0) <|
    chk (t4.length = 65) <|
    bnd (quasi_table_closed n t4 set7) fun z3' =>
    brO z3' (
      next (IntKind.i64.wrap (count6 + 1)) (IntKind.i64.wrap (set7 + 1))) (
      next count6 (IntKind.i64.wrap (set7 + 1)))) (
    k0 count6)
def quasi_Parts_l6 {ρ : Type} (n : Nat) (t4 : List Int) (count6 : Int) (set7 : Int) (k0 : Int → Option ρ) : Option ρ :=
  iterM (fun (s : Int × Int) nx => quasi_Parts_s6 n t4 s.1 s.2 (fun a0 a1 => nx (a0, a1)) k0) n (count6, set7)
def quasi_Parts (n : Nat) (s_0_0 : Int) (s_0_1 : List Int) : Option (Int × Int) :=
  bnd (quasi_open n s_0_0 s_0_1) fun z1' =>
  chk (0 = 0) <|
  chk (z1'.1.length = 65) <|
  chk ((List.replicate 65 (0 : Int)).length = 65) <|
  brO (z1'.2 != 0) (
    some (0, z1'.2)) (
    quasi_Parts_l6 n z1'.1 0 1 (fun x4' =>
      some (x4', 0)))
def top_TopSteiner_s9 {ρ : Type} (_n : Nat) (_t4_0 : Int) (_t4_1 : List (List Int)) (_t6_0 : Int) (t6_1 : List Int) (t7 : Int) (next : List Int → Int → Option ρ) (k0 : List Int → Option ρ) : Option ρ :=
  brO (decide (t7 < 7)) (
    chk (0 ≤ (IntKind.i64.wrap (8 * t7))) <|
    chk ((IntKind.i64.wrap (8 * t7)) < (t6_1.length : Int)) <|
    chk ((IntKind.i64.wrap (8 * t7)).toNat < t6_1.length) <|
    next (t6_1.set ((IntKind.i64.wrap (8 * t7)).toNat) t7) (IntKind.i64.wrap (t7 + 1))) (
    k0 t6_1)
def top_TopSteiner_l9 {ρ : Type} (n : Nat) (t4_0 : Int) (t4_1 : List (List Int)) (t6_0 : Int) (t6_1 : List Int) (t7 : Int) (k0 : List Int → Option ρ) : Option ρ :=
  iterM (fun (s : (List Int) × Int) nx => top_TopSteiner_s9 n t4_0 t4_1 t6_0 s.1 s.2 (fun a0 a1 => nx (a0, a1)) k0) n (t6_1, t7)
def top_TopSteiner_s17 {ρ : Type} (n : Nat) (_t4_0 : Int) (_t4_1 : List (List Int)) (_t6_0 : Int) (_t8 : Int) (t9 : List Int) (t6_1 : List Int) (t10 : Int) (next : List Int → Int → Option ρ) (k0 : Option ρ) (k1 : List Int → Option ρ) : Option ρ :=
  brO (decide (t10 < 6)) (
    bnd (perm_Unrank n 3 t10) fun z5' =>
    brO (z5'.2 != 0) (
      k0) (
      brO ((z5'.1.length : Int) != 3) (
        k0) (
        brO ((t9.length : Int) != 3) (
          k0) (
          chk (0 ≤ (0 : Int)) <|
          chk ((0 : Int) < (z5'.1.length : Int)) <|
          bnd (z5'.1[0]?) fun b6' =>
          chk (0 ≤ b6') <|
          chk (b6' < (t9.length : Int)) <|
          bnd (t9[b6'.toNat]?) fun b7' =>
          chk (0 ≤ (1 : Int)) <|
          chk ((1 : Int) < (z5'.1.length : Int)) <|
          bnd (z5'.1[1]?) fun b8' =>
          chk (0 ≤ b8') <|
          chk (b8' < (t9.length : Int)) <|
          bnd (t9[b8'.toNat]?) fun b9' =>
          chk (0 ≤ (2 : Int)) <|
          chk ((2 : Int) < (z5'.1.length : Int)) <|
          bnd (z5'.1[2]?) fun b10' =>
          chk (0 ≤ b10') <|
          chk (b10' < (t9.length : Int)) <|
          bnd (t9[b10'.toNat]?) fun b11' =>
          chk (0 ≤ (IntKind.i64.wrap ((IntKind.i64.wrap (b7' * 7)) + b9'))) <|
          chk ((IntKind.i64.wrap ((IntKind.i64.wrap (b7' * 7)) + b9')) < (t6_1.length : Int)) <|
          chk ((IntKind.i64.wrap ((IntKind.i64.wrap (b7' * 7)) + b9')).toNat < t6_1.length) <|
          next (t6_1.set ((IntKind.i64.wrap ((IntKind.i64.wrap (b7' * 7)) + b9')).toNat) b11') (IntKind.i64.wrap (t10 + 1)))))) (
    k1 t6_1)
def top_TopSteiner_l17 {ρ : Type} (n : Nat) (t4_0 : Int) (t4_1 : List (List Int)) (t6_0 : Int) (t8 : Int) (t9 : List Int) (t6_1 : List Int) (t10 : Int) (k0 : Option ρ) (k1 : List Int → Option ρ) : Option ρ :=
  iterM (fun (s : (List Int) × Int) nx => top_TopSteiner_s17 n t4_0 t4_1 t6_0 t8 t9 s.1 s.2 (fun a0 a1 => nx (a0, a1)) k0 k1) n (t6_1, t10)
def top_TopSteiner_s13 {ρ : Type} (n : Nat) (t4_0 : Int) (t4_1 : List (List Int)) (t6_0 : Int) (t6_1 : List Int) (t8 : Int) (next : List Int → Int → Option ρ) (k0 : Option ρ) (k1 : List Int → Option ρ) : Option ρ :=
  brO (decide (t8 < (t4_1.length : Int))) (
    chk (0 ≤ t8) <|
    chk (t8 < (t4_1.length : Int)) <|
    bnd (t4_1[t8.toNat]?) fun r4' =>
    top_TopSteiner_l17 n t4_0 t4_1 t6_0 t8 r4' t6_1 0 (
      k0) (fun x12' =>
      next x12' (IntKind.i64.wrap (t8 + 1)))) (
    k1 t6_1)
def top_TopSteiner_l13 {ρ : Type} (n : Nat) (t4_0 : Int) (t4_1 : List (List Int)) (t6_0 : Int) (t6_1 : List Int) (t8 : Int) (k0 : Option ρ) (k1 : List Int → Option ρ) : Option ρ :=
  iterM (fun (s : (List Int) × Int) nx => top_TopSteiner_s13 n t4_0 t4_1 t6_0 s.1 s.2 (fun a0 a1 => nx (a0, a1)) k0 k1) n (t6_1, t8)
def top_TopSteiner (n : Nat) (toArray0 : List (List Int)) : Option (Bool) :=
  bnd (top_one n) fun z1' =>
  brO (!z1') (
    some false) (
    bnd (triple_Grow n 7 toArray0) fun z2' =>
    brO (z2'.2.2 != 0) (
      some true) (
      chk ((49 : Int) = 49) <|
      chk (0 ≤ (49 : Int)) <|
      chk ((49 : Int) < 2 ^ 40) <|
      top_TopSteiner_l9 n z2'.1 z2'.2.1 7 (List.replicate 49 (0 : Int)) 0 (fun x3' =>
        top_TopSteiner_l13 n z2'.1 z2'.2.1 7 x3' 0 (
          some false) (fun x13' =>
          bnd (latin_Check n 7 x13') fun z14' =>
          bnd (quasi_Commutes n 7 x13') fun z15' =>
          bnd (quasi_Idempotent n 7 x13') fun z16' =>
          brO (z14' != 0) (
            some false) (
            brO (z15'.2 != 0) (
              some false) (
              brO (z16'.2 != 0) (
                some false) (
                brO (!z15'.1) (
                  some false) (
                  brO (!z16'.1) (
                    some false) (
                    bnd (quasi_Parts n 7 x13') fun z17' =>
                    brO (z17'.2 == 0) (
                      some (z17'.1 == 15)) (
                      some false))))))))))
def ref2_DesignFault_s10 {ρ : Type} (_n : Nat) (t1_0 : Int) (_t1_1 : List (List Int)) (_t3 : Int) (t4 : List Int) (t5 : Int) (next : Int → Option ρ) (k0 : Option ρ) (k1 : Option ρ) : Option ρ :=
  brO (decide (t5 < (t4.length : Int))) (
    chk (0 ≤ t5) <|
    chk (t5 < (t4.length : Int)) <|
    bnd (t4[t5.toNat]?) fun b2' =>
    brO (decide (b2' < 0)) (
      k0) (
      chk (0 ≤ t5) <|
      chk (t5 < (t4.length : Int)) <|
      bnd (t4[t5.toNat]?) fun b3' =>
      brO (decide (b3' ≥ t1_0)) (
        k0) (
        next (IntKind.i64.wrap (t5 + 1))))) (
    k1)
def ref2_DesignFault_l10 {ρ : Type} (n : Nat) (t1_0 : Int) (t1_1 : List (List Int)) (t3 : Int) (t4 : List Int) (t5 : Int) (k0 : Option ρ) (k1 : Option ρ) : Option ρ :=
  iterM (fun (s : Int) nx => ref2_DesignFault_s10 n t1_0 t1_1 t3 t4 s nx k0 k1) n t5
def ref2_DesignFault_s15 {ρ : Type} (_n : Nat) (_t1_0 : Int) (_t1_1 : List (List Int)) (_t3 : Int) (t4 : List Int) (t6 : Int) (next : Int → Option ρ) (k0 : Option ρ) (k1 : Option ρ) : Option ρ :=
  brO (decide (t6 < (t4.length : Int))) (
    chk (0 ≤ t6) <|
    chk (t6 < (t4.length : Int)) <|
    bnd (t4[t6.toNat]?) fun b4' =>
    chk (0 ≤ (IntKind.i64.wrap (t6 - 1))) <|
    chk ((IntKind.i64.wrap (t6 - 1)) < (t4.length : Int)) <|
    bnd (t4[(IntKind.i64.wrap (t6 - 1)).toNat]?) fun b5' =>
    brO (decide (b4' ≤ b5')) (
      k0) (
      next (IntKind.i64.wrap (t6 + 1)))) (
    k1)
def ref2_DesignFault_l15 {ρ : Type} (n : Nat) (t1_0 : Int) (t1_1 : List (List Int)) (t3 : Int) (t4 : List Int) (t6 : Int) (k0 : Option ρ) (k1 : Option ρ) : Option ρ :=
  iterM (fun (s : Int) nx => ref2_DesignFault_s15 n t1_0 t1_1 t3 t4 s nx k0 k1) n t6
def ref2_DesignFault_s6 {ρ : Type} (n : Nat) (t1_0 : Int) (t1_1 : List (List Int)) (t3 : Int) (next : Int → Option ρ) (k0 : Option ρ) (k1 : Option ρ) (k2 : Option ρ) : Option ρ :=
  brO (decide (t3 < (t1_1.length : Int))) (
    chk (0 ≤ t3) <|
    chk (t3 < (t1_1.length : Int)) <|
    bnd (t1_1[t3.toNat]?) fun r1' =>
    ref2_DesignFault_l10 n t1_0 t1_1 t3 r1' 0 (
      k0) (
      ref2_DesignFault_l15 n t1_0 t1_1 t3 r1' 1 (
        k1) (
        next (IntKind.i64.wrap (t3 + 1))))) (
    k2)
def ref2_DesignFault_l6 {ρ : Type} (n : Nat) (t1_0 : Int) (t1_1 : List (List Int)) (t3 : Int) (k0 : Option ρ) (k1 : Option ρ) (k2 : Option ρ) : Option ρ :=
  iterM (fun (s : Int) nx => ref2_DesignFault_s6 n t1_0 t1_1 s nx k0 k1 k2) n t3
def ref2_DesignFault (n : Nat) (toArray0_0 : Int) (toArray0_1 : List (List Int)) : Option (Int) :=
  brO (decide (toArray0_0 < 1)) (
    some 1) (
    brO (decide (toArray0_0 > 40)) (
      some 1) (
      brO (decide ((toArray0_1.length : Int) > 200)) (
        some 3) (
        ref2_DesignFault_l6 n toArray0_0 toArray0_1 0 (
          some 1) (
          some 2) (
          some 0))))
def ref2_Lies_s2 {ρ : Type} (_n : Nat) (l0 : List Int) (x1 : Int) (i5 : Int) (next : Int → Option ρ) (k0 : Option ρ) (k1 : Option ρ) : Option ρ :=
  brO (decide (i5 < (l0.length : Int))) (
    chk (0 ≤ i5) <|
    chk (i5 < (l0.length : Int)) <|
    bnd (l0[i5.toNat]?) fun b1' =>
    brO (b1' == x1) (
      k0) (
      next (IntKind.i64.wrap (i5 + 1)))) (
    k1)
def ref2_Lies_l2 {ρ : Type} (n : Nat) (l0 : List Int) (x1 : Int) (i5 : Int) (k0 : Option ρ) (k1 : Option ρ) : Option ρ :=
  iterM (fun (s : Int) nx => ref2_Lies_s2 n l0 x1 s nx k0 k1) n i5
def ref2_Lies (n : Nat) (l0 : List Int) (x1 : Int) : Option (Bool) :=
  ref2_Lies_l2 n l0 x1 0 (
    some true) (
    some false)
def ref2_TripleFault_s5 {ρ : Type} (_n : Nat) (_t1_0 : Int) (t1_1 : List (List Int)) (t4 : Int) (next : Int → Option ρ) (k0 : Option ρ) (k1 : Option ρ) : Option ρ :=
  brO (decide (t4 < (t1_1.length : Int))) (
    chk (0 ≤ t4) <|
    chk (t4 < (t1_1.length : Int)) <|
    bnd (t1_1[t4.toNat]?) fun r2' =>
    brO ((r2'.length : Int) != 3) (
      k0) (
      next (IntKind.i64.wrap (t4 + 1)))) (
    k1)
def ref2_TripleFault_l5 {ρ : Type} (n : Nat) (t1_0 : Int) (t1_1 : List (List Int)) (t4 : Int) (k0 : Option ρ) (k1 : Option ρ) : Option ρ :=
  iterM (fun (s : Int) nx => ref2_TripleFault_s5 n t1_0 t1_1 s nx k0 k1) n t4
def ref2_TripleFault_s17 {ρ : Type} (n : Nat) (_t1_0 : Int) (t1_1 : List (List Int)) (t5 : Int) (t6 : Int) (t7 : Int) (t8 : Int) (next : Int → Int → Option ρ) (k0 : Int → Option ρ) : Option ρ :=
  brO (decide (t8 < (t1_1.length : Int))) (
    chk (0 ≤ t8) <|
    chk (t8 < (t1_1.length : Int)) <|
    bnd (t1_1[t8.toNat]?) fun r3' =>
    bnd (ref2_Lies n r3' t5) fun z4' =>
    chk (0 ≤ t8) <|
    chk (t8 < (t1_1.length : Int)) <|
    bnd (t1_1[t8.toNat]?) fun r5' =>
    bnd (ref2_Lies n r5' t6) fun z6' =>
    brO z4' (
      brO z6' (
        next (IntKind.i64.wrap (t7 + 1)) (IntKind.i64.wrap (t8 + 1))) (
        next t7 (IntKind.i64.wrap (t8 + 1)))) (
      next t7 (IntKind.i64.wrap (t8 + 1)))) (
    k0 t7)
def ref2_TripleFault_l17 {ρ : Type} (n : Nat) (t1_0 : Int) (t1_1 : List (List Int)) (t5 : Int) (t6 : Int) (t7 : Int) (t8 : Int) (k0 : Int → Option ρ) : Option ρ :=
  iterM (fun (s : Int × Int) nx => ref2_TripleFault_s17 n t1_0 t1_1 t5 t6 s.1 s.2 (fun a0 a1 => nx (a0, a1)) k0) n (t7, t8)
def ref2_TripleFault_s13 {ρ : Type} (n : Nat) (t1_0 : Int) (t1_1 : List (List Int)) (t5 : Int) (t6 : Int) (next : Int → Option ρ) (k0 : Option ρ) (k1 : Option ρ) : Option ρ :=
  brO (decide (t6 < t5)) (
    ref2_TripleFault_l17 n t1_0 t1_1 t5 t6 0 0 (fun x7' =>
      brO (x7' != 1) (
        k0) (
        next (IntKind.i64.wrap (t6 + 1))))) (
    k1)
def ref2_TripleFault_l13 {ρ : Type} (n : Nat) (t1_0 : Int) (t1_1 : List (List Int)) (t5 : Int) (t6 : Int) (k0 : Option ρ) (k1 : Option ρ) : Option ρ :=
  iterM (fun (s : Int) nx => ref2_TripleFault_s13 n t1_0 t1_1 t5 s nx k0 k1) n t6
def ref2_TripleFault_s10 {ρ : Type} (n : Nat) (t1_0 : Int) (t1_1 : List (List Int)) (t5 : Int) (next : Int → Option ρ) (k0 : Option ρ) (k1 : Option ρ) : Option ρ :=
  brO (decide (t5 < t1_0)) (
    ref2_TripleFault_l13 n t1_0 t1_1 t5 0 (
      k0) (
      next (IntKind.i64.wrap (t5 + 1)))) (
    k1)
def ref2_TripleFault_l10 {ρ : Type} (n : Nat) (t1_0 : Int) (t1_1 : List (List Int)) (t5 : Int) (k0 : Option ρ) (k1 : Option ρ) : Option ρ :=
  iterM (fun (s : Int) nx => ref2_TripleFault_s10 n t1_0 t1_1 s nx k0 k1) n t5
def ref2_TripleFault (n : Nat) (toArray0_0 : Int) (toArray0_1 : List (List Int)) : Option (Int) :=
  bnd (ref2_DesignFault n toArray0_0 toArray0_1) fun z1' =>
  brO (z1' != 0) (
    some z1') (
    ref2_TripleFault_l5 n toArray0_0 toArray0_1 0 (
      some 4) (
      ref2_TripleFault_l10 n toArray0_0 toArray0_1 0 (
        some 4) (
        some 0)))
def triple_open_1 (_n : Nat) (b0 : List Int) : Option (Bool) :=
  some ((b0.length : Int) != 3)
def slices_IndexFunc_intint__triple_open_1_s2 {ρ : Type} (n : Nat) (s_0 : List (List Int)) (t7 : Int) (t8 : Int) (next : Int → Option ρ) (k0 : Int → Option ρ) (k1 : Option ρ) : Option ρ :=
  brO (decide (t8 < t7)) (
    chk (0 ≤ t8) <|
    chk (t8 < (s_0.length : Int)) <|
    bnd (s_0[t8.toNat]?) fun r1' =>
    bnd (triple_open_1 n r1') fun z2' =>
    brO z2' (
      k0 t8) (
      next (IntKind.i64.wrap (t8 + 1)))) (
    k1)
def slices_IndexFunc_intint__triple_open_1_l2 {ρ : Type} (n : Nat) (s_0 : List (List Int)) (t7 : Int) (t8 : Int) (k0 : Int → Option ρ) (k1 : Option ρ) : Option ρ :=
  iterM (fun (s : Int) nx => slices_IndexFunc_intint__triple_open_1_s2 n s_0 t7 s nx k0 k1) n t8
def slices_IndexFunc_intint__triple_open_1 (n : Nat) (s_0 : List (List Int)) : Option (Int) :=
  slices_IndexFunc_intint__triple_open_1_l2 n s_0 (s_0.length : Int) 0 (fun x3' =>
    some x3') (
    some (-1))
def slices_ContainsFunc_intint__triple_open_1 (n : Nat) (s_0 : List (List Int)) : Option (Bool) :=
  bnd (slices_IndexFunc_intint__triple_open_1 n s_0) fun z1' =>
  some (decide (z1' ≥ 0))
def triple_open (n : Nat) (d0_0 : Int) (d0_1 : List (List Int)) : Option ((List Int) × Int) :=
  bnd (design_Check n d0_0 d0_1) fun z1' =>
  brO (z1' != 0) (
    chk (0 = 0) <|
    chk ((List.replicate 1600 (0 : Int)).length = 1600) <|
    chk ((List.replicate 1600 (0 : Int)).length = 1600) <|
    chk (((List.replicate 1600 (0 : Int)).length == 1600) = true) <|
    some ((List.replicate 1600 (0 : Int)), z1')) (
    bnd (slices_ContainsFunc_intint__triple_open_1 n d0_1) fun z2' =>
    brO z2' (
      chk (0 = 0) <|
      chk ((List.replicate 1600 (0 : Int)).length = 1600) <|
      chk ((List.replicate 1600 (0 : Int)).length = 1600) <|
      chk (((List.replicate 1600 (0 : Int)).length == 1600) = true) <|
      some ((List.replicate 1600 (0 : Int)), 4)) (
      bnd (triple_third n d0_1) fun z3' =>
      chk (0 = 0) <|
      chk (z3'.1.length = 1600) <|
      chk ((List.replicate 1600 (0 : Int)).length = 1600) <|
      brO (!z3'.2) (
        chk (0 = 0) <|
        chk ((List.replicate 1600 (0 : Int)).length = 1600) <|
        chk ((List.replicate 1600 (0 : Int)).length = 1600) <|
        chk (((List.replicate 1600 (0 : Int)).length == 1600) = true) <|
        some ((List.replicate 1600 (0 : Int)), 4)) (
        brO ((IntKind.i64.wrap (6 * (d0_1.length : Int))) != (IntKind.i64.wrap (d0_0 * (IntKind.i64.wrap (d0_0 - 1))))) (
          chk (0 = 0) <|
          chk ((List.replicate 1600 (0 : Int)).length = 1600) <|
          chk ((List.replicate 1600 (0 : Int)).length = 1600) <|
          chk (((List.replicate 1600 (0 : Int)).length == 1600) = true) <|
          some ((List.replicate 1600 (0 : Int)), 4)) (
          chk (0 = 0) <|
          chk (z3'.1.length = 1600) <|
          chk (0 = 0) <|
          chk (z3'.1.length = 1600) <|
          chk ((List.replicate 1600 (0 : Int)).length = 1600) <|
          chk ((z3'.1.length == 1600) = true) <|
          some (z3'.1, 0)))))
def triple_Check (n : Nat) (d0_0 : Int) (d0_1 : List (List Int)) : Option (Int) :=
  bnd (triple_open n d0_0 d0_1) fun z1' =>
  chk (0 = 0) <|
  chk (z1'.1.length = 1600) <|
  chk ((List.replicate 1600 (0 : Int)).length = 1600) <|
  some z1'.2
def triple_Double_s9 {ρ : Type} (n : Nat) (_t1_0 : Int) (_t1_1 : List (List Int)) (_t2_0 : Int) (_t2_1 : List (List Int)) (t5 : Int) (t30 : Int) (t6_0 : List (List Int)) (t6_1 : Int) (t31 : Int) (next : List (List Int) → Int → Int → Option ρ) (k0 : List (List Int) → Int → Option ρ) : Option ρ :=
  brO (decide (t31 < t30)) (
    bnd (triple_lister_add n t6_0 t6_1 t31 (IntKind.i64.wrap (t31 + t5)) (IntKind.i64.wrap (2 * t5))) fun z2' =>
    next z2'.1 z2'.2 (IntKind.i64.wrap (t31 + 1))) (
    k0 t6_0 t6_1)
def triple_Double_l9 {ρ : Type} (n : Nat) (t1_0 : Int) (t1_1 : List (List Int)) (t2_0 : Int) (t2_1 : List (List Int)) (t5 : Int) (t30 : Int) (t6_0 : List (List Int)) (t6_1 : Int) (t31 : Int) (k0 : List (List Int) → Int → Option ρ) : Option ρ :=
  iterM (fun (s : (List (List Int)) × Int × Int) nx => triple_Double_s9 n t1_0 t1_1 t2_0 t2_1 t5 t30 s.1 s.2.1 s.2.2 (fun a0 a1 a2 => nx (a0, a1, a2)) k0) n (t6_0, t6_1, t31)
def triple_Double_s18 {ρ : Type} (n : Nat) (_t2_0 : Int) (_t2_1 : List (List Int)) (t5 : Int) (t9 : List Int) (_t46 : List (List Int)) (_t47 : Int) (_t48 : Int) (t65 : List Int) (t66 : Int) (t6_0 : List (List Int)) (t6_1 : Int) (t67 : Int) (next : List (List Int) → Int → Int → Option ρ) (k0 : List (List Int) → Int → Option ρ) : Option ρ :=
  brO (decide (t67 < t66)) (
    chk (0 ≤ t67) <|
    chk (t67 < (t65.length : Int)) <|
    bnd (t65[t67.toNat]?) fun b10' =>
    chk (0 ≤ ((IntKind.i64.wrap (t67 + 1)).tmod 3)) <|
    chk (((IntKind.i64.wrap (t67 + 1)).tmod 3) < (t9.length : Int)) <|
    bnd (t9[((IntKind.i64.wrap (t67 + 1)).tmod 3).toNat]?) fun b11' =>
    chk (0 ≤ ((IntKind.i64.wrap (t67 + 2)).tmod 3)) <|
    chk (((IntKind.i64.wrap (t67 + 2)).tmod 3) < (t9.length : Int)) <|
    bnd (t9[((IntKind.i64.wrap (t67 + 2)).tmod 3).toNat]?) fun b12' =>
    bnd (triple_lister_add n t6_0 t6_1 b10' (IntKind.i64.wrap (b11' + t5)) (IntKind.i64.wrap (b12' + t5))) fun z13' =>
    next z13'.1 z13'.2 (IntKind.i64.wrap (t67 + 1))) (
    k0 t6_0 t6_1)
def triple_Double_l18 {ρ : Type} (n : Nat) (t2_0 : Int) (t2_1 : List (List Int)) (t5 : Int) (t9 : List Int) (t46 : List (List Int)) (t47 : Int) (t48 : Int) (t65 : List Int) (t66 : Int) (t6_0 : List (List Int)) (t6_1 : Int) (t67 : Int) (k0 : List (List Int) → Int → Option ρ) : Option ρ :=
  iterM (fun (s : (List (List Int)) × Int × Int) nx => triple_Double_s18 n t2_0 t2_1 t5 t9 t46 t47 t48 t65 t66 s.1 s.2.1 s.2.2 (fun a0 a1 a2 => nx (a0, a1, a2)) k0) n (t6_0, t6_1, t67)
def triple_Double_s14 {ρ : Type} (n : Nat) (t2_0 : Int) (t2_1 : List (List Int)) (t5 : Int) (t46 : List (List Int)) (t47 : Int) (t6_0 : List (List Int)) (t6_1 : Int) (t48 : Int) (next : List (List Int) → Int → Int → Option ρ) (k0 : List (List Int) → Int → Option ρ) : Option ρ :=
  brO (decide (t48 < t47)) (
    chk (0 ≤ t48) <|
    chk (t48 < (t46.length : Int)) <|
    bnd (t46[t48.toNat]?) fun r5' =>
    chk (0 ≤ (0 : Int)) <|
    chk ((0 : Int) < (r5'.length : Int)) <|
    bnd (r5'[0]?) fun b6' =>
    chk (0 ≤ (1 : Int)) <|
    chk ((1 : Int) < (r5'.length : Int)) <|
    bnd (r5'[1]?) fun b7' =>
    chk (0 ≤ (2 : Int)) <|
    chk ((2 : Int) < (r5'.length : Int)) <|
    bnd (r5'[2]?) fun b8' =>
    bnd (triple_lister_add n t6_0 t6_1 b6' b7' b8') fun z9' =>
    triple_Double_l18 n t2_0 t2_1 t5 r5' t46 t47 t48 r5' (r5'.length : Int) z9'.1 z9'.2 0 (fun x14' x15' =>
      next x14' x15' (IntKind.i64.wrap (t48 + 1)))) (
    k0 t6_0 t6_1)
def triple_Double_l14 {ρ : Type} (n : Nat) (t2_0 : Int) (t2_1 : List (List Int)) (t5 : Int) (t46 : List (List Int)) (t47 : Int) (t6_0 : List (List Int)) (t6_1 : Int) (t48 : Int) (k0 : List (List Int) → Int → Option ρ) : Option ρ :=
  iterM (fun (s : (List (List Int)) × Int × Int) nx => triple_Double_s14 n t2_0 t2_1 t5 t46 t47 s.1 s.2.1 s.2.2 (fun a0 a1 a2 => nx (a0, a1, a2)) k0) n (t6_0, t6_1, t48)
def triple_Double (n : Nat) (toArray0_0 : Int) (toArray0_1 : List (List Int)) : Option (Int × (List (List Int)) × Int) :=
  bnd (triple_Check n toArray0_0 toArray0_1) fun z1' =>
  brO (z1' != 0) (
    some (0, [], z1')) (
    brO (decide ((IntKind.i64.wrap ((IntKind.i64.wrap (2 * toArray0_0)) + 1)) > 33)) (
      some (0, [], 3)) (
      triple_Double_l9 n toArray0_0 toArray0_1 0 ([]) toArray0_0 toArray0_0 ([]) (IntKind.i64.wrap ((IntKind.i64.wrap (2 * toArray0_0)) + 1)) 0 (fun x3' x4' =>
        triple_Double_l14 n 0 ([]) toArray0_0 toArray0_1 (toArray0_1.length : Int) x3' x4' 0 (fun x16' x17' =>
          bnd (triple_system_design n x16' x17') fun z18' =>
          some (z18'.1, z18'.2.1, 0)))))
def triple_Product_s2 {ρ : Type} (n : Nat) (_t2_0 : Int) (_t2_1 : List (List Int)) (_t3_0 : Int) (_t3_1 : List (List Int)) (_t4_0 : Int) (_t4_1 : List (List Int)) (t24_0 : Int) (t24_1 : List (List Int)) (t24_2 : Int) (t24_3 : List (List Int)) (t25 : Int) (t26 : Int) (next : Int → Option ρ) (k0 : Int → List (List Int) → Option ρ) (k1 : Option ρ) : Option ρ :=
  brO (decide (t26 < t25)) (
    brO (decide (t26 = 0)) (
      bnd (triple_Check n t24_0 t24_1) fun z1' =>
      brO (z1' != 0) (
        k0 z1' ([])) (
        next (IntKind.i64.wrap (t26 + 1)))) (
      brO (decide (t26 = 1)) (
        bnd (triple_Check n t24_2 t24_3) fun z2' =>
        brO (z2' != 0) (
          k0 z2' ([])) (
          next (IntKind.i64.wrap (t26 + 1)))) (
        none))) (
    k1)
def triple_Product_l2 {ρ : Type} (n : Nat) (t2_0 : Int) (t2_1 : List (List Int)) (t3_0 : Int) (t3_1 : List (List Int)) (t4_0 : Int) (t4_1 : List (List Int)) (t24_0 : Int) (t24_1 : List (List Int)) (t24_2 : Int) (t24_3 : List (List Int)) (t25 : Int) (t26 : Int) (k0 : Int → List (List Int) → Option ρ) (k1 : Option ρ) : Option ρ :=
  iterM (fun (s : Int) nx => triple_Product_s2 n t2_0 t2_1 t3_0 t3_1 t4_0 t4_1 t24_0 t24_1 t24_2 t24_3 t25 s nx k0 k1) n t26
def triple_Product_s16 {ρ : Type} (n : Nat) (_t2_0 : Int) (_t2_1 : List (List Int)) (_t3_0 : Int) (_t3_1 : List (List Int)) (_t4_0 : Int) (_t4_1 : List (List Int)) (_t9 : Int) (t10 : Int) (t13 : List Int) (_t52 : List (List Int)) (_t53 : Int) (_t54 : Int) (t58 : Int) (t11_0 : List (List Int)) (t11_1 : Int) (t59 : Int) (next : List (List Int) → Int → Int → Option ρ) (k0 : List (List Int) → Int → Option ρ) : Option ρ :=
  brO (decide (t59 < t58)) (
    chk (0 ≤ (0 : Int)) <|
    chk ((0 : Int) < (t13.length : Int)) <|
    bnd (t13[0]?) fun b6' =>
    chk (0 ≤ (1 : Int)) <|
    chk ((1 : Int) < (t13.length : Int)) <|
    bnd (t13[1]?) fun b7' =>
    chk (0 ≤ (2 : Int)) <|
    chk ((2 : Int) < (t13.length : Int)) <|
    bnd (t13[2]?) fun b8' =>
    bnd (triple_lister_add n t11_0 t11_1 (IntKind.i64.wrap ((IntKind.i64.wrap (t59 * t10)) + b6')) (IntKind.i64.wrap ((IntKind.i64.wrap (t59 * t10)) + b7')) (IntKind.i64.wrap ((IntKind.i64.wrap (t59 * t10)) + b8'))) fun z9' =>
    next z9'.1 z9'.2 (IntKind.i64.wrap (t59 + 1))) (
    k0 t11_0 t11_1)
def triple_Product_l16 {ρ : Type} (n : Nat) (t2_0 : Int) (t2_1 : List (List Int)) (t3_0 : Int) (t3_1 : List (List Int)) (t4_0 : Int) (t4_1 : List (List Int)) (t9 : Int) (t10 : Int) (t13 : List Int) (t52 : List (List Int)) (t53 : Int) (t54 : Int) (t58 : Int) (t11_0 : List (List Int)) (t11_1 : Int) (t59 : Int) (k0 : List (List Int) → Int → Option ρ) : Option ρ :=
  iterM (fun (s : (List (List Int)) × Int × Int) nx => triple_Product_s16 n t2_0 t2_1 t3_0 t3_1 t4_0 t4_1 t9 t10 t13 t52 t53 t54 t58 s.1 s.2.1 s.2.2 (fun a0 a1 a2 => nx (a0, a1, a2)) k0) n (t11_0, t11_1, t59)
def triple_Product_s13 {ρ : Type} (n : Nat) (t2_0 : Int) (t2_1 : List (List Int)) (t3_0 : Int) (t3_1 : List (List Int)) (t4_0 : Int) (t4_1 : List (List Int)) (t9 : Int) (t10 : Int) (t52 : List (List Int)) (t53 : Int) (t11_0 : List (List Int)) (t11_1 : Int) (t54 : Int) (next : List (List Int) → Int → Int → Option ρ) (k0 : List (List Int) → Int → Option ρ) : Option ρ :=
  brO (decide (t54 < t53)) (
    chk (0 ≤ t54) <|
    chk (t54 < (t52.length : Int)) <|
    bnd (t52[t54.toNat]?) fun r5' =>
    triple_Product_l16 n t2_0 t2_1 t3_0 t3_1 t4_0 t4_1 t9 t10 r5' t52 t53 t54 t9 t11_0 t11_1 0 (fun x10' x11' =>
      next x10' x11' (IntKind.i64.wrap (t54 + 1)))) (
    k0 t11_0 t11_1)
def triple_Product_l13 {ρ : Type} (n : Nat) (t2_0 : Int) (t2_1 : List (List Int)) (t3_0 : Int) (t3_1 : List (List Int)) (t4_0 : Int) (t4_1 : List (List Int)) (t9 : Int) (t10 : Int) (t52 : List (List Int)) (t53 : Int) (t11_0 : List (List Int)) (t11_1 : Int) (t54 : Int) (k0 : List (List Int) → Int → Option ρ) : Option ρ :=
  iterM (fun (s : (List (List Int)) × Int × Int) nx => triple_Product_s13 n t2_0 t2_1 t3_0 t3_1 t4_0 t4_1 t9 t10 t52 t53 s.1 s.2.1 s.2.2 (fun a0 a1 a2 => nx (a0, a1, a2)) k0) n (t11_0, t11_1, t54)
def triple_Product_s25 {ρ : Type} (n : Nat) (_t3_0 : Int) (_t3_1 : List (List Int)) (_t4_0 : Int) (_t4_1 : List (List Int)) (t10 : Int) (t16 : List Int) (_t90 : List (List Int)) (_t91 : Int) (_t92 : Int) (t96 : Int) (t11_0 : List (List Int)) (t11_1 : Int) (t97 : Int) (next : List (List Int) → Int → Int → Option ρ) (k0 : List (List Int) → Int → Option ρ) : Option ρ :=
  brO (decide (t97 < t96)) (
    chk (0 ≤ (0 : Int)) <|
    chk ((0 : Int) < (t16.length : Int)) <|
    bnd (t16[0]?) fun b15' =>
    chk (0 ≤ (1 : Int)) <|
    chk ((1 : Int) < (t16.length : Int)) <|
    bnd (t16[1]?) fun b16' =>
    chk (0 ≤ (2 : Int)) <|
    chk ((2 : Int) < (t16.length : Int)) <|
    bnd (t16[2]?) fun b17' =>
    bnd (triple_lister_add n t11_0 t11_1 (IntKind.i64.wrap ((IntKind.i64.wrap (b15' * t10)) + t97)) (IntKind.i64.wrap ((IntKind.i64.wrap (b16' * t10)) + t97)) (IntKind.i64.wrap ((IntKind.i64.wrap (b17' * t10)) + t97))) fun z18' =>
    next z18'.1 z18'.2 (IntKind.i64.wrap (t97 + 1))) (
    k0 t11_0 t11_1)
def triple_Product_l25 {ρ : Type} (n : Nat) (t3_0 : Int) (t3_1 : List (List Int)) (t4_0 : Int) (t4_1 : List (List Int)) (t10 : Int) (t16 : List Int) (t90 : List (List Int)) (t91 : Int) (t92 : Int) (t96 : Int) (t11_0 : List (List Int)) (t11_1 : Int) (t97 : Int) (k0 : List (List Int) → Int → Option ρ) : Option ρ :=
  iterM (fun (s : (List (List Int)) × Int × Int) nx => triple_Product_s25 n t3_0 t3_1 t4_0 t4_1 t10 t16 t90 t91 t92 t96 s.1 s.2.1 s.2.2 (fun a0 a1 a2 => nx (a0, a1, a2)) k0) n (t11_0, t11_1, t97)
def triple_Product_s33 {ρ : Type} (n : Nat) (_t3_0 : Int) (_t3_1 : List (List Int)) (_t4_0 : Int) (_t4_1 : List (List Int)) (t10 : Int) (t16 : List Int) (t19 : List Int) (_t90 : List (List Int)) (_t91 : Int) (_t92 : Int) (_t127 : List (List Int)) (_t128 : Int) (_t129 : Int) (t133 : List Int) (t11_0 : List (List Int)) (t11_1 : Int) (t134 : Int) (next : List (List Int) → Int → Int → Option ρ) (k0 : List (List Int) → Int → Option ρ) : Option ρ :=
  brO (decide (t134 < 6)) (
    chk (t133.length = 6 * 3) <|
    chk (0 ≤ t134) <|
    chk (t134 < 6) <|
    chk (3 = 3) <|
    chk (0 = 0) <|
    chk (((t133.take ((t134.toNat * 3) + 3)).drop (t134.toNat * 3)).length = 3) <|
    chk ((List.replicate 3 (0 : Int)).length = 3) <|
    chk (0 ≤ (0 : Int)) <|
    chk ((0 : Int) < (t16.length : Int)) <|
    bnd (t16[0]?) fun b22' =>
    chk (0 ≤ (0 : Int)) <|
    chk ((0 : Int) < 3) <|
    bnd (((t133.take ((t134.toNat * 3) + 3)).drop (t134.toNat * 3))[0]?) fun b23' =>
    chk (0 ≤ b23') <|
    chk (b23' < (t19.length : Int)) <|
    bnd (t19[b23'.toNat]?) fun b24' =>
    chk (0 ≤ (1 : Int)) <|
    chk ((1 : Int) < (t16.length : Int)) <|
    bnd (t16[1]?) fun b25' =>
    chk (0 ≤ (1 : Int)) <|
    chk ((1 : Int) < 3) <|
    bnd (((t133.take ((t134.toNat * 3) + 3)).drop (t134.toNat * 3))[1]?) fun b26' =>
    chk (0 ≤ b26') <|
    chk (b26' < (t19.length : Int)) <|
    bnd (t19[b26'.toNat]?) fun b27' =>
    chk (0 ≤ (2 : Int)) <|
    chk ((2 : Int) < (t16.length : Int)) <|
    bnd (t16[2]?) fun b28' =>
    chk (0 ≤ (2 : Int)) <|
    chk ((2 : Int) < 3) <|
    bnd (((t133.take ((t134.toNat * 3) + 3)).drop (t134.toNat * 3))[2]?) fun b29' =>
    chk (0 ≤ b29') <|
    chk (b29' < (t19.length : Int)) <|
    bnd (t19[b29'.toNat]?) fun b30' =>
    bnd (triple_lister_add n t11_0 t11_1 (IntKind.i64.wrap ((IntKind.i64.wrap (b22' * t10)) + b24')) (IntKind.i64.wrap ((IntKind.i64.wrap (b25' * t10)) + b27')) (IntKind.i64.wrap ((IntKind.i64.wrap (b28' * t10)) + b30'))) fun z31' =>
    next z31'.1 z31'.2 (IntKind.i64.wrap (t134 + 1))) (
    k0 t11_0 t11_1)
def triple_Product_l33 {ρ : Type} (n : Nat) (t3_0 : Int) (t3_1 : List (List Int)) (t4_0 : Int) (t4_1 : List (List Int)) (t10 : Int) (t16 : List Int) (t19 : List Int) (t90 : List (List Int)) (t91 : Int) (t92 : Int) (t127 : List (List Int)) (t128 : Int) (t129 : Int) (t133 : List Int) (t11_0 : List (List Int)) (t11_1 : Int) (t134 : Int) (k0 : List (List Int) → Int → Option ρ) : Option ρ :=
  iterM (fun (s : (List (List Int)) × Int × Int) nx => triple_Product_s33 n t3_0 t3_1 t4_0 t4_1 t10 t16 t19 t90 t91 t92 t127 t128 t129 t133 s.1 s.2.1 s.2.2 (fun a0 a1 a2 => nx (a0, a1, a2)) k0) n (t11_0, t11_1, t134)
def triple_Product_s30 {ρ : Type} (n : Nat) (t3_0 : Int) (t3_1 : List (List Int)) (t4_0 : Int) (t4_1 : List (List Int)) (t10 : Int) (t16 : List Int) (t90 : List (List Int)) (t91 : Int) (t92 : Int) (t127 : List (List Int)) (t128 : Int) (t11_0 : List (List Int)) (t11_1 : Int) (t129 : Int) (next : List (List Int) → Int → Int → Option ρ) (k0 : List (List Int) → Int → Option ρ) : Option ρ :=
  brO (decide (t129 < t128)) (
    chk (0 ≤ t129) <|
    chk (t129 < (t127.length : Int)) <|
    bnd (t127[t129.toNat]?) fun r21' =>
    chk (([0, 1, 2, 0, 2, 1, 1, 0, 2, 1, 2, 0, 2, 0, 1, 2, 1, 0]).length = 18) <|
    triple_Product_l33 n t3_0 t3_1 t4_0 t4_1 t10 t16 r21' t90 t91 t92 t127 t128 t129 ([0, 1, 2, 0, 2, 1, 1, 0, 2, 1, 2, 0, 2, 0, 1, 2, 1, 0]) t11_0 t11_1 0 (fun x32' x33' =>
      next x32' x33' (IntKind.i64.wrap (t129 + 1)))) (
    k0 t11_0 t11_1)
def triple_Product_l30 {ρ : Type} (n : Nat) (t3_0 : Int) (t3_1 : List (List Int)) (t4_0 : Int) (t4_1 : List (List Int)) (t10 : Int) (t16 : List Int) (t90 : List (List Int)) (t91 : Int) (t92 : Int) (t127 : List (List Int)) (t128 : Int) (t11_0 : List (List Int)) (t11_1 : Int) (t129 : Int) (k0 : List (List Int) → Int → Option ρ) : Option ρ :=
  iterM (fun (s : (List (List Int)) × Int × Int) nx => triple_Product_s30 n t3_0 t3_1 t4_0 t4_1 t10 t16 t90 t91 t92 t127 t128 s.1 s.2.1 s.2.2 (fun a0 a1 a2 => nx (a0, a1, a2)) k0) n (t11_0, t11_1, t129)
def triple_Product_s22 {ρ : Type} (n : Nat) (t3_0 : Int) (t3_1 : List (List Int)) (t4_0 : Int) (t4_1 : List (List Int)) (t10 : Int) (t90 : List (List Int)) (t91 : Int) (t11_0 : List (List Int)) (t11_1 : Int) (t92 : Int) (next : List (List Int) → Int → Int → Option ρ) (k0 : List (List Int) → Int → Option ρ) : Option ρ :=
  brO (decide (t92 < t91)) (
    chk (0 ≤ t92) <|
    chk (t92 < (t90.length : Int)) <|
    bnd (t90[t92.toNat]?) fun r14' =>
    triple_Product_l25 n t3_0 t3_1 t4_0 t4_1 t10 r14' t90 t91 t92 t10 t11_0 t11_1 0 (fun x19' x20' =>
      triple_Product_l30 n t3_0 t3_1 t4_0 t4_1 t10 r14' t90 t91 t92 t3_1 (t3_1.length : Int) x19' x20' 0 (fun x34' x35' =>
        next x34' x35' (IntKind.i64.wrap (t92 + 1))))) (
    k0 t11_0 t11_1)
def triple_Product_l22 {ρ : Type} (n : Nat) (t3_0 : Int) (t3_1 : List (List Int)) (t4_0 : Int) (t4_1 : List (List Int)) (t10 : Int) (t90 : List (List Int)) (t91 : Int) (t11_0 : List (List Int)) (t11_1 : Int) (t92 : Int) (k0 : List (List Int) → Int → Option ρ) : Option ρ :=
  iterM (fun (s : (List (List Int)) × Int × Int) nx => triple_Product_s22 n t3_0 t3_1 t4_0 t4_1 t10 t90 t91 s.1 s.2.1 s.2.2 (fun a0 a1 a2 => nx (a0, a1, a2)) k0) n (t11_0, t11_1, t92)
def triple_Product (n : Nat) (toArray0_0 : Int) (toArray0_1 : List (List Int)) (t1_0 : Int) (t1_1 : List (List Int)) : Option (Int × (List (List Int)) × Int) :=
  triple_Product_l2 n toArray0_0 toArray0_1 t1_0 t1_1 0 ([]) toArray0_0 toArray0_1 t1_0 t1_1 2 0 (fun x3' x4' =>
    some (0, x4', x3')) (
    brO (decide ((IntKind.i64.wrap (toArray0_0 * t1_0)) > 33)) (
      some (0, [], 3)) (
      triple_Product_l13 n toArray0_0 toArray0_1 t1_0 t1_1 0 ([]) toArray0_0 t1_0 t1_1 (t1_1.length : Int) ([]) (IntKind.i64.wrap (toArray0_0 * t1_0)) 0 (fun x12' x13' =>
        triple_Product_l22 n t1_0 t1_1 0 ([]) t1_0 toArray0_1 (toArray0_1.length : Int) x12' x13' 0 (fun x36' x37' =>
          bnd (triple_system_design n x36' x37') fun z38' =>
          some (z38'.1, z38'.2.1, 0)))))
def ref1_Ints_s4 {ρ : Type} (_n : Nat) (a0 : List Int) (b1 : List Int) (i5 : Int) (next : Int → Option ρ) (k0 : Option ρ) (k1 : Option ρ) : Option ρ :=
  brO (decide (i5 < (a0.length : Int))) (
    chk (0 ≤ i5) <|
    chk (i5 < (a0.length : Int)) <|
    bnd (a0[i5.toNat]?) fun b1' =>
    chk (0 ≤ i5) <|
    chk (i5 < (b1.length : Int)) <|
    bnd (b1[i5.toNat]?) fun b2' =>
    brO (b1' != b2') (
      k0) (
      next (IntKind.i64.wrap (i5 + 1)))) (
    k1)
def ref1_Ints_l4 {ρ : Type} (n : Nat) (a0 : List Int) (b1 : List Int) (i5 : Int) (k0 : Option ρ) (k1 : Option ρ) : Option ρ :=
  iterM (fun (s : Int) nx => ref1_Ints_s4 n a0 b1 s nx k0 k1) n i5
def ref1_Ints (n : Nat) (a0 : List Int) (b1 : List Int) : Option (Bool) :=
  brO ((a0.length : Int) != (b1.length : Int)) (
    some false) (
    ref1_Ints_l4 n a0 b1 0 (
      some false) (
      some true))
def ref1_Lists_s4 {ρ : Type} (n : Nat) (a0 : List (List Int)) (b1 : List (List Int)) (i5 : Int) (next : Int → Option ρ) (k0 : Option ρ) (k1 : Option ρ) : Option ρ :=
  brO (decide (i5 < (a0.length : Int))) (
    chk (0 ≤ i5) <|
    chk (i5 < (a0.length : Int)) <|
    bnd (a0[i5.toNat]?) fun r1' =>
    chk (0 ≤ i5) <|
    chk (i5 < (b1.length : Int)) <|
    bnd (b1[i5.toNat]?) fun r2' =>
    bnd (ref1_Ints n r1' r2') fun z3' =>
    brO (!z3') (
      k0) (
      next (IntKind.i64.wrap (i5 + 1)))) (
    k1)
def ref1_Lists_l4 {ρ : Type} (n : Nat) (a0 : List (List Int)) (b1 : List (List Int)) (i5 : Int) (k0 : Option ρ) (k1 : Option ρ) : Option ρ :=
  iterM (fun (s : Int) nx => ref1_Lists_s4 n a0 b1 s nx k0 k1) n i5
def ref1_Lists (n : Nat) (a0 : List (List Int)) (b1 : List (List Int)) : Option (Bool) :=
  brO ((a0.length : Int) != (b1.length : Int)) (
    some false) (
    ref1_Lists_l4 n a0 b1 0 (
      some false) (
      some true))
def ref2_Designs (n : Nat) (a0_0 : Int) (a0_1 : List (List Int)) (b1_0 : Int) (b1_1 : List (List Int)) : Option (Bool) :=
  bnd (ref1_Lists n a0_1 b1_1) fun z1' =>
  brO (a0_0 == b1_0) (
    some z1') (
    some false)
def ref2_Sorted_s7 {ρ : Type} (_n : Nat) (_l0 : List Int) (_i4 : Int) (out3 : List Int) (k_5 : Int) (next : List Int → Int → Option ρ) (k0 : List Int → Option ρ) : Option ρ :=
  brO (decide (k_5 > 0)) (
    chk (0 ≤ (IntKind.i64.wrap (k_5 - 1))) <|
    chk ((IntKind.i64.wrap (k_5 - 1)) < (out3.length : Int)) <|
    bnd (out3[(IntKind.i64.wrap (k_5 - 1)).toNat]?) fun b2' =>
    chk (0 ≤ k_5) <|
    chk (k_5 < (out3.length : Int)) <|
    bnd (out3[k_5.toNat]?) fun b3' =>
    brO (decide (b2' > b3')) (
      chk (0 ≤ k_5) <|
      chk (k_5 < (out3.length : Int)) <|
      bnd (out3[k_5.toNat]?) fun b4' =>
      chk (0 ≤ (IntKind.i64.wrap (k_5 - 1))) <|
      chk ((IntKind.i64.wrap (k_5 - 1)) < (out3.length : Int)) <|
      bnd (out3[(IntKind.i64.wrap (k_5 - 1)).toNat]?) fun b5' =>
      chk (0 ≤ (IntKind.i64.wrap (k_5 - 1))) <|
      chk ((IntKind.i64.wrap (k_5 - 1)) < (out3.length : Int)) <|
      chk ((IntKind.i64.wrap (k_5 - 1)).toNat < out3.length) <|
      chk (0 ≤ k_5) <|
      chk (k_5 < ((out3.set ((IntKind.i64.wrap (k_5 - 1)).toNat) b4').length : Int)) <|
      chk (k_5.toNat < (out3.set ((IntKind.i64.wrap (k_5 - 1)).toNat) b4').length) <|
      next ((out3.set ((IntKind.i64.wrap (k_5 - 1)).toNat) b4').set k_5.toNat b5') (IntKind.i64.wrap (k_5 - 1))) (
      k0 out3)) (
    k0 out3)
def ref2_Sorted_l7 {ρ : Type} (n : Nat) (l0 : List Int) (i4 : Int) (out3 : List Int) (k_5 : Int) (k0 : List Int → Option ρ) : Option ρ :=
  iterM (fun (s : (List Int) × Int) nx => ref2_Sorted_s7 n l0 i4 s.1 s.2 (fun a0 a1 => nx (a0, a1)) k0) n (out3, k_5)
def ref2_Sorted_s3 {ρ : Type} (n : Nat) (l0 : List Int) (out3 : List Int) (i4 : Int) (next : List Int → Int → Option ρ) (k0 : List Int → Option ρ) : Option ρ :=
  brO (decide (i4 < (l0.length : Int))) (
    chk (0 ≤ i4) <|
    chk (i4 < (l0.length : Int)) <|
    bnd (l0[i4.toNat]?) fun b1' =>
    chk (3 = 3) <|
    chk ((out3 ++ [b1']).length < 2 ^ 40) <|
    ref2_Sorted_l7 n l0 i4 (out3 ++ [b1']) (out3.length : Int) (fun x6' =>
      next x6' (IntKind.i64.wrap (i4 + 1)))) (
    k0 out3)
def ref2_Sorted_l3 {ρ : Type} (n : Nat) (l0 : List Int) (out3 : List Int) (i4 : Int) (k0 : List Int → Option ρ) : Option ρ :=
  iterM (fun (s : (List Int) × Int) nx => ref2_Sorted_s3 n l0 s.1 s.2 (fun a0 a1 => nx (a0, a1)) k0) n (out3, i4)
def ref2_Sorted (n : Nat) (l0 : List Int) : Option (List Int) :=
  ref2_Sorted_l3 n l0 ([]) 0 (fun x7' =>
    some x7')
def ref2_Ahead_s2 {ρ : Type} (_n : Nat) (a0 : List Int) (b1 : List Int) (i5 : Int) (next : Int → Option ρ) (k0 : Bool → Option ρ) (k1 : Option ρ) : Option ρ :=
  brO (decide (i5 < (a0.length : Int))) (
    brO (decide (i5 < (b1.length : Int))) (
      chk (0 ≤ i5) <|
      chk (i5 < (a0.length : Int)) <|
      bnd (a0[i5.toNat]?) fun b1' =>
      chk (0 ≤ i5) <|
      chk (i5 < (b1.length : Int)) <|
      bnd (b1[i5.toNat]?) fun b2' =>
      brO (b1' != b2') (
        chk (0 ≤ i5) <|
        chk (i5 < (a0.length : Int)) <|
        bnd (a0[i5.toNat]?) fun b3' =>
        chk (0 ≤ i5) <|
        chk (i5 < (b1.length : Int)) <|
        bnd (b1[i5.toNat]?) fun b4' =>
        k0 (decide (b3' < b4'))) (
        next (IntKind.i64.wrap (i5 + 1)))) (
      k1)) (
    k1)
def ref2_Ahead_l2 {ρ : Type} (n : Nat) (a0 : List Int) (b1 : List Int) (i5 : Int) (k0 : Bool → Option ρ) (k1 : Option ρ) : Option ρ :=
  iterM (fun (s : Int) nx => ref2_Ahead_s2 n a0 b1 s nx k0 k1) n i5
def ref2_Ahead (n : Nat) (a0 : List Int) (b1 : List Int) : Option (Bool) :=
  ref2_Ahead_l2 n a0 b1 0 (fun x5' =>
    some x5') (
    some (decide ((a0.length : Int) < (b1.length : Int))))
def ref2_InOrder_s8 {ρ : Type} (n : Nat) (_l0 : List (List Int)) (_i4 : Int) (out3 : List (List Int)) (k_6 : Int) (next : List (List Int) → Int → Option ρ) (k0 : List (List Int) → Option ρ) : Option ρ :=
  brO (decide (k_6 > 0)) (
    chk (0 ≤ k_6) <|
    chk (k_6 < (out3.length : Int)) <|
    bnd (out3[k_6.toNat]?) fun r3' =>
    chk (0 ≤ (IntKind.i64.wrap (k_6 - 1))) <|
    chk ((IntKind.i64.wrap (k_6 - 1)) < (out3.length : Int)) <|
    bnd (out3[(IntKind.i64.wrap (k_6 - 1)).toNat]?) fun r4' =>
    bnd (ref2_Ahead n r3' r4') fun z5' =>
    brO (!z5') (
      k0 out3) (
      chk (0 ≤ k_6) <|
      chk (k_6 < (out3.length : Int)) <|
      bnd (out3[k_6.toNat]?) fun r6' =>
      chk (0 ≤ (IntKind.i64.wrap (k_6 - 1))) <|
      chk ((IntKind.i64.wrap (k_6 - 1)) < (out3.length : Int)) <|
      bnd (out3[(IntKind.i64.wrap (k_6 - 1)).toNat]?) fun r7' =>
      chk (0 ≤ (IntKind.i64.wrap (k_6 - 1))) <|
      chk ((IntKind.i64.wrap (k_6 - 1)) < (out3.length : Int)) <|
      chk ((IntKind.i64.wrap (k_6 - 1)).toNat < out3.length) <|
      chk (0 ≤ k_6) <|
      chk (k_6 < ((out3.set ((IntKind.i64.wrap (k_6 - 1)).toNat) r6').length : Int)) <|
      chk (k_6.toNat < (out3.set ((IntKind.i64.wrap (k_6 - 1)).toNat) r6').length) <|
      next ((out3.set ((IntKind.i64.wrap (k_6 - 1)).toNat) r6').set k_6.toNat r7') (IntKind.i64.wrap (k_6 - 1)))) (
    k0 out3)
def ref2_InOrder_l8 {ρ : Type} (n : Nat) (l0 : List (List Int)) (i4 : Int) (out3 : List (List Int)) (k_6 : Int) (k0 : List (List Int) → Option ρ) : Option ρ :=
  iterM (fun (s : (List (List Int)) × Int) nx => ref2_InOrder_s8 n l0 i4 s.1 s.2 (fun a0 a1 => nx (a0, a1)) k0) n (out3, k_6)
def ref2_InOrder_s3 {ρ : Type} (n : Nat) (l0 : List (List Int)) (out3 : List (List Int)) (i4 : Int) (next : List (List Int) → Int → Option ρ) (k0 : List (List Int) → Option ρ) : Option ρ :=
  brO (decide (i4 < (l0.length : Int))) (
    chk (0 ≤ i4) <|
    chk (i4 < (l0.length : Int)) <|
    bnd (l0[i4.toNat]?) fun r1' =>
    bnd (ref2_Sorted n r1') fun z2' =>
    chk (22 = 22) <|
    chk ((out3 ++ [z2']).length < 2 ^ 40) <|
    ref2_InOrder_l8 n l0 i4 (out3 ++ [z2']) (out3.length : Int) (fun x8' =>
      next x8' (IntKind.i64.wrap (i4 + 1)))) (
    k0 out3)
def ref2_InOrder_l3 {ρ : Type} (n : Nat) (l0 : List (List Int)) (out3 : List (List Int)) (i4 : Int) (k0 : List (List Int) → Option ρ) : Option ρ :=
  iterM (fun (s : (List (List Int)) × Int) nx => ref2_InOrder_s3 n l0 s.1 s.2 (fun a0 a1 => nx (a0, a1)) k0) n (out3, i4)
def ref2_InOrder (n : Nat) (l0 : List (List Int)) : Option (List (List Int)) :=
  ref2_InOrder_l3 n l0 ([]) 0 (fun x9' =>
    some x9')
def ref2_DoubleOf_s6 {ρ : Type} (_n : Nat) (_t1_0 : Int) (_t1_1 : List (List Int)) (_t2_0 : Int) (_t2_1 : List (List Int)) (t4 : Int) (t5 : List (List Int)) (t6 : Int) (next : List (List Int) → Int → Option ρ) (k0 : List (List Int) → Option ρ) : Option ρ :=
  brO (decide (t6 < t4)) (
    chk (22 = 22) <|
    chk ((t5 ++ [[t6, (IntKind.i64.wrap (t6 + t4)), (IntKind.i64.wrap (2 * t4))]]).length < 2 ^ 40) <|
    next (t5 ++ [[t6, (IntKind.i64.wrap (t6 + t4)), (IntKind.i64.wrap (2 * t4))]]) (IntKind.i64.wrap (t6 + 1))) (
    k0 t5)
def ref2_DoubleOf_l6 {ρ : Type} (n : Nat) (t1_0 : Int) (t1_1 : List (List Int)) (t2_0 : Int) (t2_1 : List (List Int)) (t4 : Int) (t5 : List (List Int)) (t6 : Int) (k0 : List (List Int) → Option ρ) : Option ρ :=
  iterM (fun (s : (List (List Int)) × Int) nx => ref2_DoubleOf_s6 n t1_0 t1_1 t2_0 t2_1 t4 s.1 s.2 (fun a0 a1 => nx (a0, a1)) k0) n (t5, t6)
def ref2_DoubleOf_s10 {ρ : Type} (_n : Nat) (_t1_0 : Int) (t1_1 : List (List Int)) (_t2_0 : Int) (_t2_1 : List (List Int)) (t4 : Int) (t5 : List (List Int)) (t7 : Int) (next : List (List Int) → Int → Option ρ) (k0 : List (List Int) → Option ρ) : Option ρ :=
  brO (decide (t7 < (t1_1.length : Int))) (
    chk (0 ≤ t7) <|
    chk (t7 < (t1_1.length : Int)) <|
    bnd (t1_1[t7.toNat]?) fun r2' =>
    chk (0 ≤ (0 : Int)) <|
    chk ((0 : Int) < (r2'.length : Int)) <|
    bnd (r2'[0]?) fun b3' =>
    chk (0 ≤ (1 : Int)) <|
    chk ((1 : Int) < (r2'.length : Int)) <|
    bnd (r2'[1]?) fun b4' =>
    chk (0 ≤ (2 : Int)) <|
    chk ((2 : Int) < (r2'.length : Int)) <|
    bnd (r2'[2]?) fun b5' =>
    chk (22 = 22) <|
    chk ((t5 ++ [[b3', (IntKind.i64.wrap (b4' + t4)), (IntKind.i64.wrap (b5' + t4))]]).length < 2 ^ 40) <|
    chk (0 ≤ (1 : Int)) <|
    chk ((1 : Int) < (r2'.length : Int)) <|
    bnd (r2'[1]?) fun b6' =>
    chk (0 ≤ (0 : Int)) <|
    chk ((0 : Int) < (r2'.length : Int)) <|
    bnd (r2'[0]?) fun b7' =>
    chk (0 ≤ (2 : Int)) <|
    chk ((2 : Int) < (r2'.length : Int)) <|
    bnd (r2'[2]?) fun b8' =>
    chk (22 = 22) <|
    chk (((t5 ++ [[b3', (IntKind.i64.wrap (b4' + t4)), (IntKind.i64.wrap (b5' + t4))]]) ++ [[b6', (IntKind.i64.wrap (b7' + t4)), (IntKind.i64.wrap (b8' + t4))]]).length < 2 ^ 40) <|
    chk (0 ≤ (2 : Int)) <|
    chk ((2 : Int) < (r2'.length : Int)) <|
    bnd (r2'[2]?) fun b9' =>
    chk (0 ≤ (0 : Int)) <|
    chk ((0 : Int) < (r2'.length : Int)) <|
    bnd (r2'[0]?) fun b10' =>
    chk (0 ≤ (1 : Int)) <|
    chk ((1 : Int) < (r2'.length : Int)) <|
    bnd (r2'[1]?) fun b11' =>
    chk (22 = 22) <|
    chk ((((t5 ++ [[b3', (IntKind.i64.wrap (b4' + t4)), (IntKind.i64.wrap (b5' + t4))]]) ++ [[b6', (IntKind.i64.wrap (b7' + t4)), (IntKind.i64.wrap (b8' + t4))]]) ++ [[b9', (IntKind.i64.wrap (b10' + t4)), (IntKind.i64.wrap (b11' + t4))]]).length < 2 ^ 40) <|
    next (((t5 ++ [[b3', (IntKind.i64.wrap (b4' + t4)), (IntKind.i64.wrap (b5' + t4))]]) ++ [[b6', (IntKind.i64.wrap (b7' + t4)), (IntKind.i64.wrap (b8' + t4))]]) ++ [[b9', (IntKind.i64.wrap (b10' + t4)), (IntKind.i64.wrap (b11' + t4))]]) (IntKind.i64.wrap (t7 + 1))) (
    k0 t5)
def ref2_DoubleOf_l10 {ρ : Type} (n : Nat) (t1_0 : Int) (t1_1 : List (List Int)) (t2_0 : Int) (t2_1 : List (List Int)) (t4 : Int) (t5 : List (List Int)) (t7 : Int) (k0 : List (List Int) → Option ρ) : Option ρ :=
  iterM (fun (s : (List (List Int)) × Int) nx => ref2_DoubleOf_s10 n t1_0 t1_1 t2_0 t2_1 t4 s.1 s.2 (fun a0 a1 => nx (a0, a1)) k0) n (t5, t7)
def ref2_DoubleOf (n : Nat) (toArray0_0 : Int) (toArray0_1 : List (List Int)) : Option (Int × (List (List Int)) × Int) :=
  brO (decide ((IntKind.i64.wrap ((IntKind.i64.wrap (2 * toArray0_0)) + 1)) > 33)) (
    some (0, [], 3)) (
    chk (22 = 22) <|
    chk (([] ++ toArray0_1).length < 2 ^ 40) <|
    ref2_DoubleOf_l6 n toArray0_0 toArray0_1 0 ([]) toArray0_0 ([] ++ toArray0_1) 0 (fun x1' =>
      ref2_DoubleOf_l10 n toArray0_0 toArray0_1 0 ([]) toArray0_0 x1' 0 (fun x12' =>
        bnd (ref2_InOrder n x12') fun z13' =>
        some ((IntKind.i64.wrap ((IntKind.i64.wrap (2 * toArray0_0)) + 1)), z13', 0))))
def ref1_Factorial_s3 {ρ : Type} (_n : Nat) (n_0 : Int) (f3 : Int) (i4 : Int) (next : Int → Int → Option ρ) (k0 : Int → Option ρ) : Option ρ :=
  brO (decide (i4 ≤ n_0)) (
    next (IntKind.i64.wrap (f3 * i4)) (IntKind.i64.wrap (i4 + 1))) (
    k0 f3)
def ref1_Factorial_l3 {ρ : Type} (n : Nat) (n_0 : Int) (f3 : Int) (i4 : Int) (k0 : Int → Option ρ) : Option ρ :=
  iterM (fun (s : Int × Int) nx => ref1_Factorial_s3 n n_0 s.1 s.2 (fun a0 a1 => nx (a0, a1)) k0) n (f3, i4)
def ref1_Factorial (n : Nat) (n_0 : Int) : Option (Int) :=
  ref1_Factorial_l3 n n_0 1 2 (fun x1' =>
    some x1')
def ref1_PermOfRank_s15 {ρ : Type} (_n : Nat) (toArray0 : Int) (_t1 : Int) (t7 : List Int) (t8 : List Bool) (_t9 : Int) (t10 : Int) (t11 : Int) (next : Int → Int → Option ρ) (k0 : List Int → List Bool → Option ρ) (k1 : Option ρ) : Option ρ :=
  brO (decide (t11 < toArray0)) (
    chk (0 ≤ t11) <|
    chk (t11 < (t8.length : Int)) <|
    bnd (t8[t11.toNat]?) fun b3' =>
    brO b3' (
      next t10 (IntKind.i64.wrap (t11 + 1))) (
      brO (t10 == 0) (
        chk (0 ≤ t11) <|
        chk (t11 < (t8.length : Int)) <|
        chk (t11.toNat < t8.length) <|
        chk (3 = 3) <|
        chk ((t7 ++ [t11]).length < 2 ^ 40) <|
        k0 (t7 ++ [t11]) (t8.set t11.toNat true)) (
        next (IntKind.i64.wrap (t10 - 1)) (IntKind.i64.wrap (t11 + 1))))) (
    k1)
def ref1_PermOfRank_l15 {ρ : Type} (n : Nat) (toArray0 : Int) (t1 : Int) (t7 : List Int) (t8 : List Bool) (t9 : Int) (t10 : Int) (t11 : Int) (k0 : List Int → List Bool → Option ρ) (k1 : Option ρ) : Option ρ :=
  iterM (fun (s : Int × Int) nx => ref1_PermOfRank_s15 n toArray0 t1 t7 t8 t9 s.1 s.2 (fun a0 a1 => nx (a0, a1)) k0 k1) n (t10, t11)
def ref1_PermOfRank_s9 {ρ : Type} (n : Nat) (toArray0 : Int) (t1 : Int) (t7 : List Int) (t8 : List Bool) (t9 : Int) (next : Int → List Int → List Bool → Int → Option ρ) (k0 : List Int → Option ρ) : Option ρ :=
  brO (decide (t9 < toArray0)) (
    bnd (ref1_Factorial n (IntKind.i64.wrap ((IntKind.i64.wrap (toArray0 - 1)) - t9))) fun z2' =>
    if z2' = 0 then none else
    if z2' = 0 then none else
    ref1_PermOfRank_l15 n toArray0 (t1.tmod z2') t7 t8 t9 (IntKind.i64.wrap (t1.tdiv z2')) 0 (fun x4' x5' =>
      next (t1.tmod z2') x4' x5' (IntKind.i64.wrap (t9 + 1))) (
      next (t1.tmod z2') t7 t8 (IntKind.i64.wrap (t9 + 1)))) (
    k0 t7)
def ref1_PermOfRank_l9 {ρ : Type} (n : Nat) (toArray0 : Int) (t1 : Int) (t7 : List Int) (t8 : List Bool) (t9 : Int) (k0 : List Int → Option ρ) : Option ρ :=
  iterM (fun (s : Int × (List Int) × (List Bool) × Int) nx => ref1_PermOfRank_s9 n toArray0 s.1 s.2.1 s.2.2.1 s.2.2.2 (fun a0 a1 a2 a3 => nx (a0, a1, a2, a3)) k0) n (t1, t7, t8, t9)
def ref1_PermOfRank (n : Nat) (toArray0 : Int) (t1 : Int) : Option ((List Int) × Int) :=
  brO (decide (toArray0 < 0)) (
    some ([], 1)) (
    brO (decide (toArray0 > 12)) (
      some ([], 1)) (
      bnd (ref1_Factorial n toArray0) fun z1' =>
      brO (decide (t1 < 0)) (
        some ([], 1)) (
        brO (decide (t1 ≥ z1')) (
          some ([], 1)) (
          chk (toArray0 = toArray0) <|
          chk (0 ≤ toArray0) <|
          chk (toArray0 < 2 ^ 40) <|
          ref1_PermOfRank_l9 n toArray0 t1 ([]) (List.replicate toArray0.toNat false) 0 (fun x6' =>
            some (x6', 0))))))
def ref2_ProductOf_s10 {ρ : Type} (_n : Nat) (_t2_0 : Int) (_t2_1 : List (List Int)) (_t3_0 : Int) (t3_1 : List (List Int)) (_t4_0 : Int) (_t4_1 : List (List Int)) (_t6 : Int) (t7 : Int) (t9 : Int) (t8 : List (List Int)) (t10 : Int) (next : List (List Int) → Int → Option ρ) (k0 : List (List Int) → Option ρ) : Option ρ :=
  brO (decide (t10 < (t3_1.length : Int))) (
    chk (0 ≤ t10) <|
    chk (t10 < (t3_1.length : Int)) <|
    bnd (t3_1[t10.toNat]?) fun r1' =>
    chk (0 ≤ (0 : Int)) <|
    chk ((0 : Int) < (r1'.length : Int)) <|
    bnd (r1'[0]?) fun b2' =>
    chk (0 ≤ (1 : Int)) <|
    chk ((1 : Int) < (r1'.length : Int)) <|
    bnd (r1'[1]?) fun b3' =>
    chk (0 ≤ (2 : Int)) <|
    chk ((2 : Int) < (r1'.length : Int)) <|
    bnd (r1'[2]?) fun b4' =>
    chk (22 = 22) <|
    chk ((t8 ++ [[(IntKind.i64.wrap ((IntKind.i64.wrap (t9 * t7)) + b2')), (IntKind.i64.wrap ((IntKind.i64.wrap (t9 * t7)) + b3')), (IntKind.i64.wrap ((IntKind.i64.wrap (t9 * t7)) + b4'))]]).length < 2 ^ 40) <|
    next (t8 ++ [[(IntKind.i64.wrap ((IntKind.i64.wrap (t9 * t7)) + b2')), (IntKind.i64.wrap ((IntKind.i64.wrap (t9 * t7)) + b3')), (IntKind.i64.wrap ((IntKind.i64.wrap (t9 * t7)) + b4'))]]) (IntKind.i64.wrap (t10 + 1))) (
    k0 t8)
def ref2_ProductOf_l10 {ρ : Type} (n : Nat) (t2_0 : Int) (t2_1 : List (List Int)) (t3_0 : Int) (t3_1 : List (List Int)) (t4_0 : Int) (t4_1 : List (List Int)) (t6 : Int) (t7 : Int) (t9 : Int) (t8 : List (List Int)) (t10 : Int) (k0 : List (List Int) → Option ρ) : Option ρ :=
  iterM (fun (s : (List (List Int)) × Int) nx => ref2_ProductOf_s10 n t2_0 t2_1 t3_0 t3_1 t4_0 t4_1 t6 t7 t9 s.1 s.2 (fun a0 a1 => nx (a0, a1)) k0) n (t8, t10)
def ref2_ProductOf_s7 {ρ : Type} (n : Nat) (t2_0 : Int) (t2_1 : List (List Int)) (t3_0 : Int) (t3_1 : List (List Int)) (t4_0 : Int) (t4_1 : List (List Int)) (t6 : Int) (t7 : Int) (t8 : List (List Int)) (t9 : Int) (next : List (List Int) → Int → Option ρ) (k0 : List (List Int) → Option ρ) : Option ρ :=
  brO (decide (t9 < t6)) (
    ref2_ProductOf_l10 n t2_0 t2_1 t3_0 t3_1 t4_0 t4_1 t6 t7 t9 t8 0 (fun x5' =>
      next x5' (IntKind.i64.wrap (t9 + 1)))) (
    k0 t8)
def ref2_ProductOf_l7 {ρ : Type} (n : Nat) (t2_0 : Int) (t2_1 : List (List Int)) (t3_0 : Int) (t3_1 : List (List Int)) (t4_0 : Int) (t4_1 : List (List Int)) (t6 : Int) (t7 : Int) (t8 : List (List Int)) (t9 : Int) (k0 : List (List Int) → Option ρ) : Option ρ :=
  iterM (fun (s : (List (List Int)) × Int) nx => ref2_ProductOf_s7 n t2_0 t2_1 t3_0 t3_1 t4_0 t4_1 t6 t7 s.1 s.2 (fun a0 a1 => nx (a0, a1)) k0) n (t8, t9)
def ref2_ProductOf_s19 {ρ : Type} (_n : Nat) (_t2_0 : Int) (_t2_1 : List (List Int)) (_t3_0 : Int) (_t3_1 : List (List Int)) (_t4_0 : Int) (_t4_1 : List (List Int)) (_t6 : Int) (t7 : Int) (_t12 : Int) (t13 : List Int) (t8 : List (List Int)) (t14 : Int) (next : List (List Int) → Int → Option ρ) (k0 : List (List Int) → Option ρ) : Option ρ :=
  brO (decide (t14 < t7)) (
    chk (0 ≤ (0 : Int)) <|
    chk ((0 : Int) < (t13.length : Int)) <|
    bnd (t13[0]?) fun b8' =>
    chk (0 ≤ (1 : Int)) <|
    chk ((1 : Int) < (t13.length : Int)) <|
    bnd (t13[1]?) fun b9' =>
    chk (0 ≤ (2 : Int)) <|
    chk ((2 : Int) < (t13.length : Int)) <|
    bnd (t13[2]?) fun b10' =>
    chk (22 = 22) <|
    chk ((t8 ++ [[(IntKind.i64.wrap ((IntKind.i64.wrap (b8' * t7)) + t14)), (IntKind.i64.wrap ((IntKind.i64.wrap (b9' * t7)) + t14)), (IntKind.i64.wrap ((IntKind.i64.wrap (b10' * t7)) + t14))]]).length < 2 ^ 40) <|
    next (t8 ++ [[(IntKind.i64.wrap ((IntKind.i64.wrap (b8' * t7)) + t14)), (IntKind.i64.wrap ((IntKind.i64.wrap (b9' * t7)) + t14)), (IntKind.i64.wrap ((IntKind.i64.wrap (b10' * t7)) + t14))]]) (IntKind.i64.wrap (t14 + 1))) (
    k0 t8)
def ref2_ProductOf_l19 {ρ : Type} (n : Nat) (t2_0 : Int) (t2_1 : List (List Int)) (t3_0 : Int) (t3_1 : List (List Int)) (t4_0 : Int) (t4_1 : List (List Int)) (t6 : Int) (t7 : Int) (t12 : Int) (t13 : List Int) (t8 : List (List Int)) (t14 : Int) (k0 : List (List Int) → Option ρ) : Option ρ :=
  iterM (fun (s : (List (List Int)) × Int) nx => ref2_ProductOf_s19 n t2_0 t2_1 t3_0 t3_1 t4_0 t4_1 t6 t7 t12 t13 s.1 s.2 (fun a0 a1 => nx (a0, a1)) k0) n (t8, t14)
def ref2_ProductOf_s27 {ρ : Type} (n : Nat) (_t2_0 : Int) (_t2_1 : List (List Int)) (_t3_0 : Int) (_t3_1 : List (List Int)) (_t4_0 : Int) (_t4_1 : List (List Int)) (_t6 : Int) (t7 : Int) (_t12 : Int) (t13 : List Int) (_t15 : Int) (t16 : List Int) (t8 : List (List Int)) (t17 : Int) (next : List (List Int) → Int → Option ρ) (k0 : List (List Int) → Option ρ) : Option ρ :=
  brO (decide (t17 < 6)) (
    bnd (ref1_PermOfRank n 3 t17) fun z13' =>
    chk (0 ≤ (0 : Int)) <|
    chk ((0 : Int) < (t13.length : Int)) <|
    bnd (t13[0]?) fun b14' =>
    chk (0 ≤ (0 : Int)) <|
    chk ((0 : Int) < (z13'.1.length : Int)) <|
    bnd (z13'.1[0]?) fun b15' =>
    chk (0 ≤ b15') <|
    chk (b15' < (t16.length : Int)) <|
    bnd (t16[b15'.toNat]?) fun b16' =>
    chk (0 ≤ (1 : Int)) <|
    chk ((1 : Int) < (t13.length : Int)) <|
    bnd (t13[1]?) fun b17' =>
    chk (0 ≤ (1 : Int)) <|
    chk ((1 : Int) < (z13'.1.length : Int)) <|
    bnd (z13'.1[1]?) fun b18' =>
    chk (0 ≤ b18') <|
    chk (b18' < (t16.length : Int)) <|
    bnd (t16[b18'.toNat]?) fun b19' =>
    chk (0 ≤ (2 : Int)) <|
    chk ((2 : Int) < (t13.length : Int)) <|
    bnd (t13[2]?) fun b20' =>
    chk (0 ≤ (2 : Int)) <|
    chk ((2 : Int) < (z13'.1.length : Int)) <|
    bnd (z13'.1[2]?) fun b21' =>
    chk (0 ≤ b21') <|
    chk (b21' < (t16.length : Int)) <|
    bnd (t16[b21'.toNat]?) fun b22' =>
    chk (22 = 22) <|
    chk ((t8 ++ [[(IntKind.i64.wrap ((IntKind.i64.wrap (b14' * t7)) + b16')), (IntKind.i64.wrap ((IntKind.i64.wrap (b17' * t7)) + b19')), (IntKind.i64.wrap ((IntKind.i64.wrap (b20' * t7)) + b22'))]]).length < 2 ^ 40) <|
    next (t8 ++ [[(IntKind.i64.wrap ((IntKind.i64.wrap (b14' * t7)) + b16')), (IntKind.i64.wrap ((IntKind.i64.wrap (b17' * t7)) + b19')), (IntKind.i64.wrap ((IntKind.i64.wrap (b20' * t7)) + b22'))]]) (IntKind.i64.wrap (t17 + 1))) (
    k0 t8)
def ref2_ProductOf_l27 {ρ : Type} (n : Nat) (t2_0 : Int) (t2_1 : List (List Int)) (t3_0 : Int) (t3_1 : List (List Int)) (t4_0 : Int) (t4_1 : List (List Int)) (t6 : Int) (t7 : Int) (t12 : Int) (t13 : List Int) (t15 : Int) (t16 : List Int) (t8 : List (List Int)) (t17 : Int) (k0 : List (List Int) → Option ρ) : Option ρ :=
  iterM (fun (s : (List (List Int)) × Int) nx => ref2_ProductOf_s27 n t2_0 t2_1 t3_0 t3_1 t4_0 t4_1 t6 t7 t12 t13 t15 t16 s.1 s.2 (fun a0 a1 => nx (a0, a1)) k0) n (t8, t17)
def ref2_ProductOf_s23 {ρ : Type} (n : Nat) (t2_0 : Int) (t2_1 : List (List Int)) (t3_0 : Int) (t3_1 : List (List Int)) (t4_0 : Int) (t4_1 : List (List Int)) (t6 : Int) (t7 : Int) (t12 : Int) (t13 : List Int) (t8 : List (List Int)) (t15 : Int) (next : List (List Int) → Int → Option ρ) (k0 : List (List Int) → Option ρ) : Option ρ :=
  brO (decide (t15 < (t3_1.length : Int))) (
    chk (0 ≤ t15) <|
    chk (t15 < (t3_1.length : Int)) <|
    bnd (t3_1[t15.toNat]?) fun r12' =>
    ref2_ProductOf_l27 n t2_0 t2_1 t3_0 t3_1 t4_0 t4_1 t6 t7 t12 t13 t15 r12' t8 0 (fun x23' =>
      next x23' (IntKind.i64.wrap (t15 + 1)))) (
    k0 t8)
def ref2_ProductOf_l23 {ρ : Type} (n : Nat) (t2_0 : Int) (t2_1 : List (List Int)) (t3_0 : Int) (t3_1 : List (List Int)) (t4_0 : Int) (t4_1 : List (List Int)) (t6 : Int) (t7 : Int) (t12 : Int) (t13 : List Int) (t8 : List (List Int)) (t15 : Int) (k0 : List (List Int) → Option ρ) : Option ρ :=
  iterM (fun (s : (List (List Int)) × Int) nx => ref2_ProductOf_s23 n t2_0 t2_1 t3_0 t3_1 t4_0 t4_1 t6 t7 t12 t13 s.1 s.2 (fun a0 a1 => nx (a0, a1)) k0) n (t8, t15)
def ref2_ProductOf_s15 {ρ : Type} (n : Nat) (t2_0 : Int) (t2_1 : List (List Int)) (t3_0 : Int) (t3_1 : List (List Int)) (t4_0 : Int) (t4_1 : List (List Int)) (t6 : Int) (t7 : Int) (t8 : List (List Int)) (t12 : Int) (next : List (List Int) → Int → Option ρ) (k0 : List (List Int) → Option ρ) : Option ρ :=
  brO (decide (t12 < (t2_1.length : Int))) (
    chk (0 ≤ t12) <|
    chk (t12 < (t2_1.length : Int)) <|
    bnd (t2_1[t12.toNat]?) fun r7' =>
    ref2_ProductOf_l19 n t2_0 t2_1 t3_0 t3_1 t4_0 t4_1 t6 t7 t12 r7' t8 0 (fun x11' =>
      ref2_ProductOf_l23 n t2_0 t2_1 t3_0 t3_1 t4_0 t4_1 t6 t7 t12 r7' x11' 0 (fun x24' =>
        next x24' (IntKind.i64.wrap (t12 + 1))))) (
    k0 t8)
def ref2_ProductOf_l15 {ρ : Type} (n : Nat) (t2_0 : Int) (t2_1 : List (List Int)) (t3_0 : Int) (t3_1 : List (List Int)) (t4_0 : Int) (t4_1 : List (List Int)) (t6 : Int) (t7 : Int) (t8 : List (List Int)) (t12 : Int) (k0 : List (List Int) → Option ρ) : Option ρ :=
  iterM (fun (s : (List (List Int)) × Int) nx => ref2_ProductOf_s15 n t2_0 t2_1 t3_0 t3_1 t4_0 t4_1 t6 t7 s.1 s.2 (fun a0 a1 => nx (a0, a1)) k0) n (t8, t12)
def ref2_ProductOf (n : Nat) (toArray0_0 : Int) (toArray0_1 : List (List Int)) (t1_0 : Int) (t1_1 : List (List Int)) : Option (Int × (List (List Int)) × Int) :=
  brO (decide ((IntKind.i64.wrap (toArray0_0 * t1_0)) > 33)) (
    some (0, [], 3)) (
    ref2_ProductOf_l7 n toArray0_0 toArray0_1 t1_0 t1_1 0 ([]) toArray0_0 t1_0 ([]) 0 (fun x6' =>
      ref2_ProductOf_l15 n toArray0_0 toArray0_1 t1_0 t1_1 0 ([]) toArray0_0 t1_0 x6' 0 (fun x25' =>
        bnd (ref2_InOrder n x25') fun z26' =>
        some ((IntKind.i64.wrap (toArray0_0 * t1_0)), z26', 0))))
def law2_TripleTurns (n : Nat) (toArray0_0 : Int) (toArray0_1 : List (List Int)) (t1_0 : Int) (t1_1 : List (List Int)) : Option (Bool) :=
  bnd (ref2_TripleFault n toArray0_0 toArray0_1) fun z1' =>
  bnd (triple_Check n toArray0_0 toArray0_1) fun z2' =>
  brO (z2' != z1') (
    some false) (
    bnd (triple_Double n toArray0_0 toArray0_1) fun z3' =>
    bnd (triple_Product n toArray0_0 toArray0_1 t1_0 t1_1) fun z4' =>
    brO (z1' != 0) (
      bnd (ref2_Designs n z3'.1 z3'.2.1 0 ([])) fun z5' =>
      bnd (ref2_Designs n z4'.1 z4'.2.1 0 ([])) fun z6' =>
      brO (z3'.2.2 == z1') (
        brO (z4'.2.2 == z1') (
          brO z5' (
            some z6') (
            some false)) (
          some false)) (
        some false)) (
      bnd (ref2_DoubleOf n toArray0_0 toArray0_1) fun z7' =>
      bnd (ref2_Designs n z3'.1 z3'.2.1 z7'.1 z7'.2.1) fun z8' =>
      brO (z3'.2.2 != z7'.2.2) (
        some false) (
        brO (!z8') (
          some false) (
          bnd (ref2_TripleFault n t1_0 t1_1) fun z9' =>
          brO (z9' != 0) (
            bnd (ref2_Designs n z4'.1 z4'.2.1 0 ([])) fun z10' =>
            brO (z4'.2.2 == z9') (
              some z10') (
              some false)) (
            bnd (ref2_ProductOf n toArray0_0 toArray0_1 t1_0 t1_1) fun z11' =>
            bnd (ref2_Designs n z4'.1 z4'.2.1 z11'.1 z11'.2.1) fun z12' =>
            brO (z4'.2.2 == z11'.2.2) (
              some z12') (
              some false))))))
def triple_system_bose_s10 {ρ : Type} (n : Nat) (_t1 : Int) (t4 : Int) (t5 : Int) (t6 : Int) (t7 : Int) (_t12 : Int) (_t13 : Int) (toArray0_0 : List (List Int)) (toArray0_1 : Int) (t43 : Int) (next : List (List Int) → Int → Int → Option ρ) (k0 : List (List Int) → Int → Option ρ) : Option ρ :=
  brO (decide (t43 < 3)) (
    bnd (triple_lister_add n toArray0_0 toArray0_1 (IntKind.i64.wrap (t5 + (IntKind.i64.wrap (t4 * t43)))) (IntKind.i64.wrap (t6 + (IntKind.i64.wrap (t4 * t43)))) (IntKind.i64.wrap (t7 + (IntKind.i64.wrap (t4 * ((IntKind.i64.wrap (t43 + 1)).tmod 3)))))) fun z2' =>
    next z2'.1 z2'.2 (IntKind.i64.wrap (t43 + 1))) (
    k0 toArray0_0 toArray0_1)
def triple_system_bose_l10 {ρ : Type} (n : Nat) (t1 : Int) (t4 : Int) (t5 : Int) (t6 : Int) (t7 : Int) (t12 : Int) (t13 : Int) (toArray0_0 : List (List Int)) (toArray0_1 : Int) (t43 : Int) (k0 : List (List Int) → Int → Option ρ) : Option ρ :=
  iterM (fun (s : (List (List Int)) × Int × Int) nx => triple_system_bose_s10 n t1 t4 t5 t6 t7 t12 t13 s.1 s.2.1 s.2.2 (fun a0 a1 a2 => nx (a0, a1, a2)) k0) n (toArray0_0, toArray0_1, t43)
def triple_system_bose_s6 {ρ : Type} (n : Nat) (t1 : Int) (t4 : Int) (t5 : Int) (t12 : Int) (t13 : Int) (toArray0_0 : List (List Int)) (toArray0_1 : Int) (t6 : Int) (next : List (List Int) → Int → Int → Option ρ) (k0 : List (List Int) → Int → Option ρ) : Option ρ :=
  brO (decide (t6 < t4)) (
    if t4 = 0 then none else
    triple_system_bose_l10 n t1 t4 t5 t6 ((IntKind.i64.wrap ((IntKind.i64.wrap (t5 + t6)) * (IntKind.i64.wrap (t1 + 1)))).tmod t4) t12 t13 toArray0_0 toArray0_1 0 (fun x3' x4' =>
      next x3' x4' (IntKind.i64.wrap (t6 + 1)))) (
    k0 toArray0_0 toArray0_1)
def triple_system_bose_l6 {ρ : Type} (n : Nat) (t1 : Int) (t4 : Int) (t5 : Int) (t12 : Int) (t13 : Int) (toArray0_0 : List (List Int)) (toArray0_1 : Int) (t6 : Int) (k0 : List (List Int) → Int → Option ρ) : Option ρ :=
  iterM (fun (s : (List (List Int)) × Int × Int) nx => triple_system_bose_s6 n t1 t4 t5 t12 t13 s.1 s.2.1 s.2.2 (fun a0 a1 a2 => nx (a0, a1, a2)) k0) n (toArray0_0, toArray0_1, t6)
def triple_system_bose_s2 {ρ : Type} (n : Nat) (t1 : Int) (t4 : Int) (t12 : Int) (toArray0_0 : List (List Int)) (toArray0_1 : Int) (t13 : Int) (next : List (List Int) → Int → Int → Option ρ) (k0 : List (List Int) → Int → Option ρ) : Option ρ :=
  brO (decide (t13 < t12)) (
    bnd (triple_lister_add n toArray0_0 toArray0_1 t13 (IntKind.i64.wrap (t13 + t4)) (IntKind.i64.wrap (t13 + (IntKind.i64.wrap (2 * t4))))) fun z1' =>
    triple_system_bose_l6 n t1 t4 t13 t12 t13 z1'.1 z1'.2 (IntKind.i64.wrap (t13 + 1)) (fun x5' x6' =>
      next x5' x6' (IntKind.i64.wrap (t13 + 1)))) (
    k0 toArray0_0 toArray0_1)
def triple_system_bose_l2 {ρ : Type} (n : Nat) (t1 : Int) (t4 : Int) (t12 : Int) (toArray0_0 : List (List Int)) (toArray0_1 : Int) (t13 : Int) (k0 : List (List Int) → Int → Option ρ) : Option ρ :=
  iterM (fun (s : (List (List Int)) × Int × Int) nx => triple_system_bose_s2 n t1 t4 t12 s.1 s.2.1 s.2.2 (fun a0 a1 a2 => nx (a0, a1, a2)) k0) n (toArray0_0, toArray0_1, t13)
def triple_system_bose (n : Nat) (toArray0_0 : List (List Int)) (toArray0_1 : Int) (t1 : Int) : Option ((List (List Int)) × Int) :=
  triple_system_bose_l2 n t1 (IntKind.i64.wrap ((IntKind.i64.wrap (2 * t1)) + 1)) (IntKind.i64.wrap ((IntKind.i64.wrap (2 * t1)) + 1)) toArray0_0 toArray0_1 0 (fun x7' x8' =>
    some (x7', x8'))
def triple_system_skolem_s6 {ρ : Type} (n : Nat) (t1 : Int) (t4 : Int) (t5 : Int) (_t13 : Int) (_t14 : Int) (toArray0_0 : List (List Int)) (toArray0_1 : Int) (t29 : Int) (next : List (List Int) → Int → Int → Option ρ) (k0 : List (List Int) → Int → Option ρ) : Option ρ :=
  brO (decide (t29 < 3)) (
    bnd (triple_lister_add n toArray0_0 toArray0_1 (IntKind.i64.wrap (6 * t1)) (IntKind.i64.wrap ((IntKind.i64.wrap (t5 + t1)) + (IntKind.i64.wrap (t4 * t29)))) (IntKind.i64.wrap (t5 + (IntKind.i64.wrap (t4 * ((IntKind.i64.wrap (t29 + 1)).tmod 3)))))) fun z2' =>
    next z2'.1 z2'.2 (IntKind.i64.wrap (t29 + 1))) (
    k0 toArray0_0 toArray0_1)
def triple_system_skolem_l6 {ρ : Type} (n : Nat) (t1 : Int) (t4 : Int) (t5 : Int) (t13 : Int) (t14 : Int) (toArray0_0 : List (List Int)) (toArray0_1 : Int) (t29 : Int) (k0 : List (List Int) → Int → Option ρ) : Option ρ :=
  iterM (fun (s : (List (List Int)) × Int × Int) nx => triple_system_skolem_s6 n t1 t4 t5 t13 t14 s.1 s.2.1 s.2.2 (fun a0 a1 a2 => nx (a0, a1, a2)) k0) n (toArray0_0, toArray0_1, t29)
def triple_system_skolem_s2 {ρ : Type} (n : Nat) (t1 : Int) (t4 : Int) (t13 : Int) (toArray0_0 : List (List Int)) (toArray0_1 : Int) (t14 : Int) (next : List (List Int) → Int → Int → Option ρ) (k0 : List (List Int) → Int → Option ρ) : Option ρ :=
  brO (decide (t14 < t13)) (
    bnd (triple_lister_add n toArray0_0 toArray0_1 t14 (IntKind.i64.wrap (t14 + t4)) (IntKind.i64.wrap (t14 + (IntKind.i64.wrap (2 * t4))))) fun z1' =>
    triple_system_skolem_l6 n t1 t4 t14 t13 t14 z1'.1 z1'.2 0 (fun x3' x4' =>
      next x3' x4' (IntKind.i64.wrap (t14 + 1)))) (
    k0 toArray0_0 toArray0_1)
def triple_system_skolem_l2 {ρ : Type} (n : Nat) (t1 : Int) (t4 : Int) (t13 : Int) (toArray0_0 : List (List Int)) (toArray0_1 : Int) (t14 : Int) (k0 : List (List Int) → Int → Option ρ) : Option ρ :=
  iterM (fun (s : (List (List Int)) × Int × Int) nx => triple_system_skolem_s2 n t1 t4 t13 s.1 s.2.1 s.2.2 (fun a0 a1 a2 => nx (a0, a1, a2)) k0) n (toArray0_0, toArray0_1, t14)
def triple_system_skolem_s22 {ρ : Type} (n : Nat) (_t1 : Int) (t4 : Int) (t7 : Int) (t8 : Int) (t9 : Int) (_t54 : Int) (_t55 : Int) (toArray0_0 : List (List Int)) (toArray0_1 : Int) (t80 : Int) (next : List (List Int) → Int → Int → Option ρ) (k0 : List (List Int) → Int → Option ρ) : Option ρ :=
  brO (decide (t80 < 3)) (
    bnd (triple_lister_add n toArray0_0 toArray0_1 (IntKind.i64.wrap (t7 + (IntKind.i64.wrap (t4 * t80)))) (IntKind.i64.wrap (t8 + (IntKind.i64.wrap (t4 * t80)))) (IntKind.i64.wrap (t9 + (IntKind.i64.wrap (t4 * ((IntKind.i64.wrap (t80 + 1)).tmod 3)))))) fun z7' =>
    next z7'.1 z7'.2 (IntKind.i64.wrap (t80 + 1))) (
    k0 toArray0_0 toArray0_1)
def triple_system_skolem_l22 {ρ : Type} (n : Nat) (t1 : Int) (t4 : Int) (t7 : Int) (t8 : Int) (t9 : Int) (t54 : Int) (t55 : Int) (toArray0_0 : List (List Int)) (toArray0_1 : Int) (t80 : Int) (k0 : List (List Int) → Int → Option ρ) : Option ρ :=
  iterM (fun (s : (List (List Int)) × Int × Int) nx => triple_system_skolem_s22 n t1 t4 t7 t8 t9 t54 t55 s.1 s.2.1 s.2.2 (fun a0 a1 a2 => nx (a0, a1, a2)) k0) n (toArray0_0, toArray0_1, t80)
def triple_system_skolem_s15 {ρ : Type} (n : Nat) (t1 : Int) (t4 : Int) (t7 : Int) (t54 : Int) (t55 : Int) (toArray0_0 : List (List Int)) (toArray0_1 : Int) (t8 : Int) (next : List (List Int) → Int → Int → Option ρ) (k0 : List (List Int) → Int → Option ρ) : Option ρ :=
  brO (decide (t8 < t4)) (
    if t4 = 0 then none else
    brO ((((IntKind.i64.wrap (t7 + t8)).tmod t4).tmod 2) == 0) (
      triple_system_skolem_l22 n t1 t4 t7 t8 (IntKind.i64.wrap (((IntKind.i64.wrap (t7 + t8)).tmod t4).tdiv 2)) t54 t55 toArray0_0 toArray0_1 0 (fun x8' x9' =>
        next x8' x9' (IntKind.i64.wrap (t8 + 1)))) (
      triple_system_skolem_l22 n t1 t4 t7 t8 (IntKind.i64.wrap ((IntKind.i64.wrap ((IntKind.i64.wrap (((IntKind.i64.wrap (t7 + t8)).tmod t4) - 1)).tdiv 2)) + t1)) t54 t55 toArray0_0 toArray0_1 0 (fun x10' x11' =>
        next x10' x11' (IntKind.i64.wrap (t8 + 1))))) (
    k0 toArray0_0 toArray0_1)
def triple_system_skolem_l15 {ρ : Type} (n : Nat) (t1 : Int) (t4 : Int) (t7 : Int) (t54 : Int) (t55 : Int) (toArray0_0 : List (List Int)) (toArray0_1 : Int) (t8 : Int) (k0 : List (List Int) → Int → Option ρ) : Option ρ :=
  iterM (fun (s : (List (List Int)) × Int × Int) nx => triple_system_skolem_s15 n t1 t4 t7 t54 t55 s.1 s.2.1 s.2.2 (fun a0 a1 a2 => nx (a0, a1, a2)) k0) n (toArray0_0, toArray0_1, t8)
def triple_system_skolem_s12 {ρ : Type} (n : Nat) (t1 : Int) (t4 : Int) (t54 : Int) (toArray0_0 : List (List Int)) (toArray0_1 : Int) (t55 : Int) (next : List (List Int) → Int → Int → Option ρ) (k0 : List (List Int) → Int → Option ρ) : Option ρ :=
  brO (decide (t55 < t54)) (
    triple_system_skolem_l15 n t1 t4 t55 t54 t55 toArray0_0 toArray0_1 (IntKind.i64.wrap (t55 + 1)) (fun x12' x13' =>
      next x12' x13' (IntKind.i64.wrap (t55 + 1)))) (
    k0 toArray0_0 toArray0_1)
def triple_system_skolem_l12 {ρ : Type} (n : Nat) (t1 : Int) (t4 : Int) (t54 : Int) (toArray0_0 : List (List Int)) (toArray0_1 : Int) (t55 : Int) (k0 : List (List Int) → Int → Option ρ) : Option ρ :=
  iterM (fun (s : (List (List Int)) × Int × Int) nx => triple_system_skolem_s12 n t1 t4 t54 s.1 s.2.1 s.2.2 (fun a0 a1 a2 => nx (a0, a1, a2)) k0) n (toArray0_0, toArray0_1, t55)
def triple_system_skolem (n : Nat) (toArray0_0 : List (List Int)) (toArray0_1 : Int) (t1 : Int) : Option ((List (List Int)) × Int) :=
  triple_system_skolem_l2 n t1 (IntKind.i64.wrap (2 * t1)) t1 toArray0_0 toArray0_1 0 (fun x5' x6' =>
    triple_system_skolem_l12 n t1 (IntKind.i64.wrap (2 * t1)) (IntKind.i64.wrap (2 * t1)) x5' x6' 0 (fun x14' x15' =>
      some (x14', x15')))
def triple_Make (n : Nat) (v0 : Int) : Option (Int × (List (List Int)) × Int) :=
  brO (decide (v0 < 1)) (
    some (0, [], 1)) (
    brO (decide (v0 > 33)) (
      some (0, [], 1)) (
      brO ((v0.tmod 6) == 3) (
        bnd (triple_system_bose n ([]) v0 (IntKind.i64.wrap (v0.tdiv 6))) fun z1' =>
        bnd (triple_system_design n z1'.1 z1'.2) fun z2' =>
        some (z2'.1, z2'.2.1, 0)) (
        brO ((v0.tmod 6) == 1) (
          bnd (triple_system_skolem n ([]) v0 (IntKind.i64.wrap (v0.tdiv 6))) fun z3' =>
          bnd (triple_system_design n z3'.1 z3'.2) fun z4' =>
          some (z4'.1, z4'.2.1, 0)) (
          some (0, [], 4)))))
def law2_tripleFact (n : Nat) : Option (Bool) :=
  bnd (triple_Make n 7) fun z1' =>
  bnd (triple_Check n z1'.1 z1'.2.1) fun z2' =>
  brO (z1'.2.2 == 0) (
    brO (z2' == 0) (
      brO (z1'.1 == 7) (
        some ((z1'.2.1.length : Int) == 7)) (
        some false)) (
      some false)) (
    some false)
def ref2_Together_s3 {ρ : Type} (n : Nat) (a0 : List Int) (b1 : List Int) (n_5 : Int) (i6 : Int) (next : Int → Int → Option ρ) (k0 : Int → Option ρ) : Option ρ :=
  brO (decide (i6 < (a0.length : Int))) (
    chk (0 ≤ i6) <|
    chk (i6 < (a0.length : Int)) <|
    bnd (a0[i6.toNat]?) fun b1' =>
    bnd (ref2_Lies n b1 b1') fun z2' =>
    brO z2' (
      next (IntKind.i64.wrap (n_5 + 1)) (IntKind.i64.wrap (i6 + 1))) (
      next n_5 (IntKind.i64.wrap (i6 + 1)))) (
    k0 n_5)
def ref2_Together_l3 {ρ : Type} (n : Nat) (a0 : List Int) (b1 : List Int) (n_5 : Int) (i6 : Int) (k0 : Int → Option ρ) : Option ρ :=
  iterM (fun (s : Int × Int) nx => ref2_Together_s3 n a0 b1 s.1 s.2 (fun a0 a1 => nx (a0, a1)) k0) n (n_5, i6)
def ref2_Together (n : Nat) (a0 : List Int) (b1 : List Int) : Option (Int) :=
  ref2_Together_l3 n a0 b1 0 0 (fun x3' =>
    some x3')
def law2_TripleDoubled_s14 {ρ : Type} (n : Nat) (_t2_0 : Int) (t2_1 : List (List Int)) (_t3_0 : Int) (_t3_1 : List (List Int)) (_t6_0 : Int) (t6_1 : List (List Int)) (t9 : Int) (t10 : Int) (t11 : Int) (next : Int → Int → Option ρ) (k0 : Int → Option ρ) : Option ρ :=
  brO (decide (t11 < (t6_1.length : Int))) (
    chk (0 ≤ t9) <|
    chk (t9 < (t2_1.length : Int)) <|
    bnd (t2_1[t9.toNat]?) fun r4' =>
    chk (0 ≤ t11) <|
    chk (t11 < (t6_1.length : Int)) <|
    bnd (t6_1[t11.toNat]?) fun r5' =>
    bnd (ref2_Together n r4' r5') fun z6' =>
    brO (z6' == 3) (
      next (IntKind.i64.wrap (t10 + 1)) (IntKind.i64.wrap (t11 + 1))) (
      next t10 (IntKind.i64.wrap (t11 + 1)))) (
    k0 t10)
def law2_TripleDoubled_l14 {ρ : Type} (n : Nat) (t2_0 : Int) (t2_1 : List (List Int)) (t3_0 : Int) (t3_1 : List (List Int)) (t6_0 : Int) (t6_1 : List (List Int)) (t9 : Int) (t10 : Int) (t11 : Int) (k0 : Int → Option ρ) : Option ρ :=
  iterM (fun (s : Int × Int) nx => law2_TripleDoubled_s14 n t2_0 t2_1 t3_0 t3_1 t6_0 t6_1 t9 s.1 s.2 (fun a0 a1 => nx (a0, a1)) k0) n (t10, t11)
def law2_TripleDoubled_s10 {ρ : Type} (n : Nat) (t2_0 : Int) (t2_1 : List (List Int)) (t3_0 : Int) (t3_1 : List (List Int)) (t6_0 : Int) (t6_1 : List (List Int)) (t9 : Int) (next : Int → Option ρ) (k0 : Option ρ) (k1 : Option ρ) : Option ρ :=
  brO (decide (t9 < (t2_1.length : Int))) (
    law2_TripleDoubled_l14 n t2_0 t2_1 t3_0 t3_1 t6_0 t6_1 t9 0 0 (fun x7' =>
      brO (x7' != 1) (
        k0) (
        next (IntKind.i64.wrap (t9 + 1))))) (
    k1)
def law2_TripleDoubled_l10 {ρ : Type} (n : Nat) (t2_0 : Int) (t2_1 : List (List Int)) (t3_0 : Int) (t3_1 : List (List Int)) (t6_0 : Int) (t6_1 : List (List Int)) (t9 : Int) (k0 : Option ρ) (k1 : Option ρ) : Option ρ :=
  iterM (fun (s : Int) nx => law2_TripleDoubled_s10 n t2_0 t2_1 t3_0 t3_1 t6_0 t6_1 s nx k0 k1) n t9
def law2_TripleDoubled (n : Nat) (toArray0_0 : Int) (toArray0_1 : List (List Int)) (t1_0 : Int) (t1_1 : List (List Int)) : Option (Bool) :=
  bnd (law2_tripleFact n) fun z1' =>
  brO (!z1') (
    some false) (
    bnd (triple_Double n toArray0_0 toArray0_1) fun z2' =>
    brO (z2'.2.2 == 0) (
      bnd (triple_Check n z2'.1 z2'.2.1) fun z3' =>
      brO (z3' != 0) (
        some false) (
        brO (z2'.1 != (IntKind.i64.wrap ((IntKind.i64.wrap (2 * toArray0_0)) + 1))) (
          some false) (
          law2_TripleDoubled_l10 n toArray0_0 toArray0_1 t1_0 t1_1 z2'.1 z2'.2.1 0 (
            some false) (
            bnd (triple_Product n toArray0_0 toArray0_1 t1_0 t1_1) fun z8' =>
            brO (z8'.2.2 != 0) (
              some true) (
              bnd (triple_Check n z8'.1 z8'.2.1) fun z9' =>
              brO (z9' == 0) (
                some (z8'.1 == (IntKind.i64.wrap (toArray0_0 * t1_0)))) (
                some false)))))) (
      bnd (triple_Product n toArray0_0 toArray0_1 t1_0 t1_1) fun z10' =>
      brO (z10'.2.2 != 0) (
        some true) (
        bnd (triple_Check n z10'.1 z10'.2.1) fun z11' =>
        brO (z11' == 0) (
          some (z10'.1 == (IntKind.i64.wrap (toArray0_0 * t1_0)))) (
          some false))))
end Go.Gm
