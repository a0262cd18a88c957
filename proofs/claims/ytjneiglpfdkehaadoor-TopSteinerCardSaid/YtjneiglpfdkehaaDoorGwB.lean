/-
  The functions keep the contracts that their models give; printed by program (gen.py).
  Conditions: none.
-/
import Derived.Test.YtjneiglpfdkehaaDoorGwT
import Derived.Test.YtjneiglpfdkehaaDoorSh
import Derived.Test.YtjneiglpfdkehaaDoorLS
import Derived.Test.YtjneiglpfdkehaaDoorG5
namespace Go.Gw
open Go Go.Gx Go.Proofs
set_option maxRecDepth 100000
namespace W_field_isPrime
noncomputable def body : Code := Tryd.f112.body.getD .skip
def keep : List (Nat × List Nat) := [(2, [0, 5, 6])]
noncomputable def used (_n : Nat) : List Ent := []
noncomputable def env (n : Nat) : Env := envOf te gl (used n) ⟨2, 13⟩ [] keep
def F2 (c : Int × (List Int)) (s : Int) : Fr := [(0, .pv (.int .i64 c.1)), (5, .aa (.ints .i64 c.2)), (6, .pv (.int .i64 s))]
def d2 : Fr → Option ((Int × (List Int)) × (Int))
  | [(0, .pv (.int .i64 p0)), (5, .aa (.ints .i64 t5)), (6, .pv (.int .i64 t6))] => some ((p0, t5), t6)
  | _ => none
def st2 {ρ : Type} (n : Nat) (c : Int × (List Int)) (Ko : Exit → Fr → Option ρ) (s : Int) (nx : Int → Option ρ) : Option ρ :=
  Gm.field_isPrime_s2 n c.1 c.2 s nx (Ko .ret [(2, .pv (.bool true))]) (Ko (.exit 0) [])
noncomputable def tab (ρ : Type) (n : Nat) : Tab ρ := { live := [(0, [0]), (1, [0, 5, 6]), (2, [0, 5, 6, 7]), (3, [0, 4, 5, 6]), (4, [0, 5, 6, 11]), (5, [2]), (6, [0, 5, 6]), (7, [2])], xl := [(0, []), (1, [0, 5, 6])], rl := [2], fz := [], jp := [], lp := [(2, fun A Ko => bnd (d2 A) fun p => iterM (st2 n p.1 Ko) n p.2)] }
noncomputable def b2 : Code := (cL (cB (c2 (c1 (c2 body)))))
theorem d2_ok (A : Fr) (c : Int × (List Int)) (s : Int) (h : d2 A = some (c, s)) : A = F2 c s := by
  unfold d2 at h
  split at h
  · cases h; rfl
  · cases h
theorem step2 (ρ : Type) (n : Nat) (c : Int × (List Int)) (Ko : Exit → Fr → Option ρ) (s : Int) (nx : (Int × (List Int)) → (Int) → Option ρ) :
    AEO (env n) (answers ρ (used n) (used n)) (tab ρ n) b2 (F2 c s) (thenO (fun A => bnd (d2 (restr (keepOf (env n) b2) A)) fun p => nx p.1 p.2) Ko) = st2 n c Ko s (nx c) := by kernel_rfl
theorem lp2_ok {ρ : Type} (n : Nat) (hl : EntsOK Tryd.prog gl (used n)) : ∀ (A : Fr) (Ko : Exit → Fr → Option ρ) (r : ρ) (K : Exit → Fr → Prop), (bnd (d2 (restr (keepOf (env n) b2) A)) fun p => iterM (st2 n p.1 Ko) n p.2) = some r → (∀ e A, Ko e A = some r → K e A) → Gx.Sem Tryd.prog (env n) (.loop b2) A K :=
  fun A Ko r K h hk => loop_cod (P := Tryd.prog) (E := env n) (T := tab ρ n) (fun _ _ _ h => answers_ok h) F2 d2 (st2 n) d2_ok (show Cov _ (env n) (tab ρ n) b2 from ⟨trivial, ⟨⟨trivial, trivial⟩, ⟨⟨trivial, ⟨trivial, ⟨⟨trivial, trivial⟩, trivial⟩⟩⟩, trivial⟩⟩⟩) (fun c Ko s nx => step2 ρ n c Ko s nx) n A Ko r K h hk
def enc (a : Int) : List AV := [.pv (.int .i64 a)]
def dec : List AV → Option (Int)
  | [.pv (.int .i64 p0)] => some p0
  | _ => none
def emb (b : Bool) : AV × List AV := (.pv (.bool b), [])
def dr : AV → List AV → Option (Bool)
  | .pv (.bool r0), [] => some r0
  | _, _ => none
theorem dec_ok (vs : List AV) (a : Int) (h : dec vs = some a) : vs = enc a := by
  unfold dec at h
  split at h
  · cases h; rfl
  · cases h
theorem dr_ok (v : AV) (o : List AV) (b : Bool) (h : dr v o = some b) : emb b = (v, o) := by
  unfold dr at h
  split at h
  · cases h; rfl
  · cases h
noncomputable def ent (n : Nat) : Ent := { f := 112, ms := [.lend], α := Int, β := Bool, dec := dec, enc := enc, emb := emb, m := fun a => Gm.field_isPrime n a, hdec := dec_ok }
theorem run (n : Nat) (a : Int) : AEO (env n) (answers (Bool) (used n) (used n)) (tab (Bool) n) body (frameOf (enc a) 0) (bodyO (env n) Tryd.f112.results.toList (enc a) dr) = (ent n).m a := by kernel_rfl
theorem ok (n : Nat) (hl : EntsOK Tryd.prog gl (used n)) : EntOK Tryd.prog gl (ent n) :=
  fnO_sound (P := Tryd.prog) (e := ent n) (fn := Tryd.f112) (body := body) (l := used n) (te := te) (gl := gl) (n := ⟨2, 13⟩) (cut := []) (keep := keep) (T := tab (Bool) n) (dr := dr) Tryd.func112 (by kernel_rfl) (by kernel_rfl) te_ok (by kernel_rfl) (by kernel_rfl) hl (show Cov _ (env n) (tab (Bool) n) body from ⟨trivial, ⟨⟨trivial, lp2_ok n hl⟩, ⟨trivial, trivial⟩⟩⟩) dr_ok (fun a => ⟨rfl, rfl⟩) (run n)
theorem all_ok (n : Nat) : EntOK Tryd.prog gl (ent n) := ok n trivial
end W_field_isPrime
namespace W_field_order
noncomputable def body : Code := Tryd.f76.body.getD .skip
def keep : List (Nat × List Nat) := [(5, [0, 6, 18, 19])]
noncomputable def used (n : Nat) : List Ent := [W_field_isPrime.ent n]
noncomputable def env (n : Nat) : Env := envOf te gl (used n) ⟨4, 28⟩ [] keep
def F5 (c : Int × Int) (s : Int × Int) : Fr := [(0, .pv (.int .i64 c.1)), (6, .pv (.int .i64 s.1)), (18, .pv (.int .i64 c.2)), (19, .pv (.int .i64 s.2))]
def d5 : Fr → Option ((Int × Int) × (Int × Int))
  | [(0, .pv (.int .i64 prime0)), (6, .pv (.int .i64 q6)), (18, .pv (.int .i64 t18)), (19, .pv (.int .i64 t19))] => some ((prime0, t18), (q6, t19))
  | _ => none
def st5 {ρ : Type} (n : Nat) (c : Int × Int) (Ko : Exit → Fr → Option ρ) (s : Int × Int) (nx : (Int × Int) → Option ρ) : Option ρ :=
  Gm.field_order_s5 n c.1 c.2 s.1 s.2 (fun a0 a1 => nx (a0, a1)) (Ko .ret [(5, .pv (.bool false)), (4, .pv (.int .i64 0))]) (fun (y0 : Int) => Ko (.exit 0) [(6, .pv (.int .i64 y0))])
noncomputable def tab (ρ : Type) (n : Nat) : Tab ρ := { live := [(0, [0, 1]), (1, [0, 1, 17]), (2, [4, 5]), (3, [0, 1, 6]), (4, [0, 6, 18, 19]), (5, [0, 6, 18, 19, 20]), (6, [0, 6, 18, 19]), (7, [0, 6, 18, 19, 25]), (8, [4, 5]), (9, [0, 6, 18, 19]), (10, [4, 5])], xl := [(0, [6]), (1, [0, 6, 18, 19])], rl := [4, 5], fz := [], jp := [], lp := [(5, fun A Ko => bnd (d5 A) fun p => iterM (st5 n p.1 Ko) n p.2)] }
noncomputable def b5 : Code := (cL (cB (c2 (c1 (c2 (c2 (c2 body)))))))
theorem d5_ok (A : Fr) (c : Int × Int) (s : Int × Int) (h : d5 A = some (c, s)) : A = F5 c s := by
  unfold d5 at h
  split at h
  · cases h; rfl
  · cases h
theorem step5 (ρ : Type) (n : Nat) (c : Int × Int) (Ko : Exit → Fr → Option ρ) (s : Int × Int) (nx : (Int × Int) → (Int × Int) → Option ρ) :
    AEO (env n) (answers ρ (used n) (used n)) (tab ρ n) b5 (F5 c s) (thenO (fun A => bnd (d5 (restr (keepOf (env n) b5) A)) fun p => nx p.1 p.2) Ko) = st5 n c Ko s (nx c) := by kernel_rfl
theorem lp5_ok {ρ : Type} (n : Nat) (hl : EntsOK Tryd.prog gl (used n)) : ∀ (A : Fr) (Ko : Exit → Fr → Option ρ) (r : ρ) (K : Exit → Fr → Prop), (bnd (d5 (restr (keepOf (env n) b5) A)) fun p => iterM (st5 n p.1 Ko) n p.2) = some r → (∀ e A, Ko e A = some r → K e A) → Gx.Sem Tryd.prog (env n) (.loop b5) A K :=
  fun A Ko r K h hk => loop_cod (P := Tryd.prog) (E := env n) (T := tab ρ n) (fun _ _ _ h => answers_ok h) F5 d5 (st5 n) d5_ok (show Cov _ (env n) (tab ρ n) b5 from ⟨trivial, ⟨⟨trivial, trivial⟩, ⟨⟨trivial, ⟨trivial, ⟨⟨trivial, trivial⟩, trivial⟩⟩⟩, trivial⟩⟩⟩) (fun c Ko s nx => step5 ρ n c Ko s nx) n A Ko r K h hk
def enc (a : Int × Int) : List AV := [.pv (.int .i64 a.1), .pv (.int .i64 a.2)]
def dec : List AV → Option (Int × Int)
  | [.pv (.int .i64 prime0), .pv (.int .i64 degree1)] => some (prime0, degree1)
  | _ => none
def emb (b : Int × Bool) : AV × List AV := (.tp [.pv (.int .i64 b.1), .pv (.bool b.2)], [])
def dr : AV → List AV → Option (Int × Bool)
  | .tp [.pv (.int .i64 r0), .pv (.bool r1)], [] => some (r0, r1)
  | _, _ => none
theorem dec_ok (vs : List AV) (a : Int × Int) (h : dec vs = some a) : vs = enc a := by
  unfold dec at h
  split at h
  · cases h; rfl
  · cases h
theorem dr_ok (v : AV) (o : List AV) (b : Int × Bool) (h : dr v o = some b) : emb b = (v, o) := by
  unfold dr at h
  split at h
  · cases h; rfl
  · cases h
noncomputable def ent (n : Nat) : Ent := { f := 76, ms := [.lend, .lend], α := Int × Int, β := Int × Bool, dec := dec, enc := enc, emb := emb, m := fun a => Gm.field_order n a.1 a.2, hdec := dec_ok }
theorem run (n : Nat) (a : Int × Int) : AEO (env n) (answers (Int × Bool) (used n) (used n)) (tab (Int × Bool) n) body (frameOf (enc a) 0) (bodyO (env n) Tryd.f76.results.toList (enc a) dr) = (ent n).m a := by kernel_rfl
theorem ok (n : Nat) (hl : EntsOK Tryd.prog gl (used n)) : EntOK Tryd.prog gl (ent n) :=
  fnO_sound (P := Tryd.prog) (e := ent n) (fn := Tryd.f76) (body := body) (l := used n) (te := te) (gl := gl) (n := ⟨4, 28⟩) (cut := []) (keep := keep) (T := tab (Int × Bool) n) (dr := dr) Tryd.func76 (by kernel_rfl) (by kernel_rfl) te_ok (by kernel_rfl) (by kernel_rfl) hl (show Cov _ (env n) (tab (Int × Bool) n) body from ⟨trivial, ⟨⟨trivial, ⟨⟨trivial, trivial⟩, trivial⟩⟩, ⟨trivial, ⟨⟨trivial, lp5_ok n hl⟩, ⟨trivial, trivial⟩⟩⟩⟩⟩) dr_ok (fun a => ⟨rfl, rfl⟩) (run n)
theorem all_ok (n : Nat) : EntOK Tryd.prog gl (ent n) := ok n ⟨W_field_isPrime.all_ok n, trivial⟩
end W_field_order
namespace W_field_digits
noncomputable def body : Code := Tryd.f77.body.getD .skip
def keep : List (Nat × List Nat) := [(3, [0, 1, 4, 5, 6])]
noncomputable def used (_n : Nat) : List Ent := []
noncomputable def env (n : Nat) : Env := envOf te gl (used n) ⟨1, 20⟩ [] keep
def F3 (c : Int × (List Int)) (s : Int × (List Int) × Int) : Fr := [(0, .pv (.int .i64 c.1)), (1, .pv (.int .i64 s.1)), (4, .ba (.ints .i64 c.2)), (5, .ba (.ints .i64 s.2.1)), (6, .pv (.int .i64 s.2.2))]
def d3 : Fr → Option ((Int × (List Int)) × (Int × (List Int) × Int))
  | [(0, .pv (.int .i64 p0)), (1, .pv (.int .i64 n_1)), (4, .ba (.ints .i64 t4)), (5, .ba (.ints .i64 out5)), (6, .pv (.int .i64 i6))] => some ((p0, t4), (n_1, out5, i6))
  | _ => none
def st3 {ρ : Type} (n : Nat) (c : Int × (List Int)) (Ko : Exit → Fr → Option ρ) (s : Int × (List Int) × Int) (nx : (Int × (List Int) × Int) → Option ρ) : Option ρ :=
  Gm.field_digits_s3 n c.1 c.2 s.1 s.2.1 s.2.2 (fun a0 a1 a2 => nx (a0, a1, a2)) (fun (y0 : List Int) => Ko (.exit 0) [(4, .ba (.ints .i64 c.2)), (5, .ba (.ints .i64 y0))])
noncomputable def tab (ρ : Type) (n : Nat) : Tab ρ := { live := [(0, [0, 1, 4]), (1, [0, 1, 4, 5]), (2, [0, 1, 4, 5, 6]), (3, [0, 1, 4, 5, 6, 8]), (4, [0, 1, 4, 5, 6]), (5, [0, 1, 4, 5, 6]), (6, [4])], xl := [(0, [4, 5]), (1, [0, 1, 4, 5, 6])], rl := [4], fz := [], jp := [], lp := [(3, fun A Ko => bnd (d3 A) fun p => iterM (st3 n p.1 Ko) n p.2)] }
noncomputable def b3 : Code := (cL (cB (c2 (c1 (c2 (c2 body))))))
theorem d3_ok (A : Fr) (c : Int × (List Int)) (s : Int × (List Int) × Int) (h : d3 A = some (c, s)) : A = F3 c s := by
  unfold d3 at h
  split at h
  · cases h; rfl
  · cases h
theorem step3 (ρ : Type) (n : Nat) (c : Int × (List Int)) (Ko : Exit → Fr → Option ρ) (s : Int × (List Int) × Int) (nx : (Int × (List Int)) → (Int × (List Int) × Int) → Option ρ) :
    AEO (env n) (answers ρ (used n) (used n)) (tab ρ n) b3 (F3 c s) (thenO (fun A => bnd (d3 (restr (keepOf (env n) b3) A)) fun p => nx p.1 p.2) Ko) = st3 n c Ko s (nx c) := by kernel_rfl
theorem lp3_ok {ρ : Type} (n : Nat) (hl : EntsOK Tryd.prog gl (used n)) : ∀ (A : Fr) (Ko : Exit → Fr → Option ρ) (r : ρ) (K : Exit → Fr → Prop), (bnd (d3 (restr (keepOf (env n) b3) A)) fun p => iterM (st3 n p.1 Ko) n p.2) = some r → (∀ e A, Ko e A = some r → K e A) → Gx.Sem Tryd.prog (env n) (.loop b3) A K :=
  fun A Ko r K h hk => loop_cod (P := Tryd.prog) (E := env n) (T := tab ρ n) (fun _ _ _ h => answers_ok h) F3 d3 (st3 n) d3_ok (show Cov _ (env n) (tab ρ n) b3 from ⟨⟨trivial, ⟨trivial, trivial⟩⟩, ⟨trivial, trivial⟩⟩) (fun c Ko s nx => step3 ρ n c Ko s nx) n A Ko r K h hk
def enc (a : Int × Int) : List AV := [.pv (.int .i64 a.1), .pv (.int .i64 a.2)]
def dec : List AV → Option (Int × Int)
  | [.pv (.int .i64 p0), .pv (.int .i64 n_1)] => some (p0, n_1)
  | _ => none
def emb (b : List Int) : AV × List AV := (.aa (.ints .i64 b), [])
def dr : AV → List AV → Option (List Int)
  | .aa (.ints .i64 r0), [] => some r0
  | _, _ => none
theorem dec_ok (vs : List AV) (a : Int × Int) (h : dec vs = some a) : vs = enc a := by
  unfold dec at h
  split at h
  · cases h; rfl
  · cases h
theorem dr_ok (v : AV) (o : List AV) (b : List Int) (h : dr v o = some b) : emb b = (v, o) := by
  unfold dr at h
  split at h
  · cases h; rfl
  · cases h
noncomputable def ent (n : Nat) : Ent := { f := 77, ms := [.lend, .lend], α := Int × Int, β := List Int, dec := dec, enc := enc, emb := emb, m := fun a => Gm.field_digits n a.1 a.2, hdec := dec_ok }
theorem run (n : Nat) (a : Int × Int) : AEO (env n) (answers (List Int) (used n) (used n)) (tab (List Int) n) body (frameOf (enc a) 0) (bodyO (env n) Tryd.f77.results.toList (enc a) dr) = (ent n).m a := by kernel_rfl
theorem ok (n : Nat) (hl : EntsOK Tryd.prog gl (used n)) : EntOK Tryd.prog gl (ent n) :=
  fnO_sound (P := Tryd.prog) (e := ent n) (fn := Tryd.f77) (body := body) (l := used n) (te := te) (gl := gl) (n := ⟨1, 20⟩) (cut := []) (keep := keep) (T := tab (List Int) n) (dr := dr) Tryd.func77 (by kernel_rfl) (by kernel_rfl) te_ok (by kernel_rfl) (by kernel_rfl) hl (show Cov _ (env n) (tab (List Int) n) body from ⟨trivial, ⟨trivial, ⟨⟨trivial, lp3_ok n hl⟩, ⟨trivial, trivial⟩⟩⟩⟩) dr_ok (fun a => ⟨rfl, rfl⟩) (run n)
theorem all_ok (n : Nat) : EntOK Tryd.prog gl (ent n) := ok n trivial
end W_field_digits
namespace W_field_divides
noncomputable def body : Code := Tryd.f113.body.getD .skip
def keep : List (Nat × List Nat) := [(2, [0, 2, 6, 8, 11]), (6, [0, 2, 6, 8, 11, 12, 25, 26])]
noncomputable def used (_n : Nat) : List Ent := []
noncomputable def env (n : Nat) : Env := envOf te gl (used n) ⟨6, 53⟩ [] keep
def F6 (c : Int × Int × (List Int) × Int × Int × Int) (s : (List Int) × Int) : Fr := [(0, .pv (.int .i64 c.1)), (2, .pv (.int .i64 c.2.1)), (6, .ba (.ints .i64 c.2.2.1)), (8, .ba (.ints .i64 s.1)), (11, .pv (.int .i64 c.2.2.2.1)), (12, .pv (.int .i64 c.2.2.2.2.1)), (25, .pv (.int .i64 c.2.2.2.2.2)), (26, .pv (.int .i64 s.2))]
def d6 : Fr → Option ((Int × Int × (List Int) × Int × Int × Int) × ((List Int) × Int))
  | [(0, .pv (.int .i64 p0)), (2, .pv (.int .i64 degree2)), (6, .ba (.ints .i64 d6)), (8, .ba (.ints .i64 a8)), (11, .pv (.int .i64 top11)), (12, .pv (.int .i64 times12)), (25, .pv (.int .i64 t25)), (26, .pv (.int .i64 t26))] => some ((p0, degree2, d6, top11, times12, t25), (a8, t26))
  | _ => none
def st6 {ρ : Type} (n : Nat) (c : Int × Int × (List Int) × Int × Int × Int) (Ko : Exit → Fr → Option ρ) (s : (List Int) × Int) (nx : ((List Int) × Int) → Option ρ) : Option ρ :=
  Gm.field_divides_s6 n c.1 c.2.1 c.2.2.1 c.2.2.2.1 c.2.2.2.2.1 c.2.2.2.2.2 s.1 s.2 (fun a0 a1 => nx (a0, a1)) (fun (y0 : List Int) => Ko (.exit 2) [(0, .pv (.int .i64 c.1)), (2, .pv (.int .i64 c.2.1)), (6, .ba (.ints .i64 c.2.2.1)), (8, .ba (.ints .i64 y0)), (11, .pv (.int .i64 c.2.2.2.1))])
def F2 (c : Int × Int × (List Int)) (s : (List Int) × Int) : Fr := [(0, .pv (.int .i64 c.1)), (2, .pv (.int .i64 c.2.1)), (6, .ba (.ints .i64 c.2.2)), (8, .ba (.ints .i64 s.1)), (11, .pv (.int .i64 s.2))]
def d2 : Fr → Option ((Int × Int × (List Int)) × ((List Int) × Int))
  | [(0, .pv (.int .i64 p0)), (2, .pv (.int .i64 degree2)), (6, .ba (.ints .i64 d6)), (8, .ba (.ints .i64 a8)), (11, .pv (.int .i64 top11))] => some ((p0, degree2, d6), (a8, top11))
  | _ => none
def st2 {ρ : Type} (n : Nat) (c : Int × Int × (List Int)) (Ko : Exit → Fr → Option ρ) (s : (List Int) × Int) (nx : ((List Int) × Int) → Option ρ) : Option ρ :=
  Gm.field_divides_s2 n c.1 c.2.1 c.2.2 s.1 s.2 (fun a0 a1 => nx (a0, a1)) (fun (y0 : List Int) => Ko (.exit 0) [(8, .ba (.ints .i64 y0))])
noncomputable def tab (ρ : Type) (n : Nat) : Tab ρ := { live := [(0, [0, 2, 4, 6, 8]), (1, [0, 2, 6, 8, 11]), (2, [0, 2, 6, 8, 11, 18]), (3, [0, 2, 6, 8, 11]), (4, [0, 2, 6, 8, 11, 12]), (5, [0, 2, 6, 8, 11, 12, 25, 26]), (6, [0, 2, 6, 8, 11, 12, 25, 26, 27]), (7, [0, 2, 6, 8, 11, 12, 13, 25, 26]), (8, [0, 2, 6, 8, 11, 12, 13, 14, 25, 26]), (9, [0, 2, 6, 8, 11, 12, 25, 26]), (10, [0, 2, 6, 8, 11, 12, 25, 26]), (11, [10])], xl := [(0, [8]), (1, [0, 2, 6, 8, 11]), (2, [0, 2, 6, 8, 11]), (3, [0, 2, 6, 8, 11, 12, 25, 26])], rl := [10], fz := [], jp := [], lp := [(6, fun A Ko => bnd (d6 A) fun p => iterM (st6 n p.1 Ko) n p.2), (2, fun A Ko => bnd (d2 A) fun p => iterM (st2 n p.1 Ko) n p.2)] }
noncomputable def b6 : Code := (cL (cB (c2 (c2 (cB (c1 (c2 (cL (cB (c2 (c1 (c2 body))))))))))))
theorem d6_ok (A : Fr) (c : Int × Int × (List Int) × Int × Int × Int) (s : (List Int) × Int) (h : d6 A = some (c, s)) : A = F6 c s := by
  unfold d6 at h
  split at h
  · cases h; rfl
  · cases h
theorem step6 (ρ : Type) (n : Nat) (c : Int × Int × (List Int) × Int × Int × Int) (Ko : Exit → Fr → Option ρ) (s : (List Int) × Int) (nx : (Int × Int × (List Int) × Int × Int × Int) → ((List Int) × Int) → Option ρ) :
    AEO (env n) (answers ρ (used n) (used n)) (tab ρ n) b6 (F6 c s) (thenO (fun A => bnd (d6 (restr (keepOf (env n) b6) A)) fun p => nx p.1 p.2) Ko) = st6 n c Ko s (nx c) := by kernel_rfl
theorem lp6_ok {ρ : Type} (n : Nat) (hl : EntsOK Tryd.prog gl (used n)) : ∀ (A : Fr) (Ko : Exit → Fr → Option ρ) (r : ρ) (K : Exit → Fr → Prop), (bnd (d6 (restr (keepOf (env n) b6) A)) fun p => iterM (st6 n p.1 Ko) n p.2) = some r → (∀ e A, Ko e A = some r → K e A) → Gx.Sem Tryd.prog (env n) (.loop b6) A K :=
  fun A Ko r K h hk => loop_cod (P := Tryd.prog) (E := env n) (T := tab ρ n) (fun _ _ _ h => answers_ok h) F6 d6 (st6 n) d6_ok (show Cov _ (env n) (tab ρ n) b6 from ⟨trivial, ⟨⟨trivial, trivial⟩, ⟨⟨trivial, ⟨trivial, trivial⟩⟩, trivial⟩⟩⟩) (fun c Ko s nx => step6 ρ n c Ko s nx) n A Ko r K h hk
noncomputable def b2 : Code := (cL (cB (c2 (c1 (c2 body)))))
theorem d2_ok (A : Fr) (c : Int × Int × (List Int)) (s : (List Int) × Int) (h : d2 A = some (c, s)) : A = F2 c s := by
  unfold d2 at h
  split at h
  · cases h; rfl
  · cases h
theorem step2 (ρ : Type) (n : Nat) (c : Int × Int × (List Int)) (Ko : Exit → Fr → Option ρ) (s : (List Int) × Int) (nx : (Int × Int × (List Int)) → ((List Int) × Int) → Option ρ) :
    AEO (env n) (answers ρ (used n) (used n)) (tab ρ n) b2 (F2 c s) (thenO (fun A => bnd (d2 (restr (keepOf (env n) b2) A)) fun p => nx p.1 p.2) Ko) = st2 n c Ko s (nx c) := by kernel_rfl
theorem lp2_ok {ρ : Type} (n : Nat) (hl : EntsOK Tryd.prog gl (used n)) : ∀ (A : Fr) (Ko : Exit → Fr → Option ρ) (r : ρ) (K : Exit → Fr → Prop), (bnd (d2 (restr (keepOf (env n) b2) A)) fun p => iterM (st2 n p.1 Ko) n p.2) = some r → (∀ e A, Ko e A = some r → K e A) → Gx.Sem Tryd.prog (env n) (.loop b2) A K :=
  fun A Ko r K h hk => loop_cod (P := Tryd.prog) (E := env n) (T := tab ρ n) (fun _ _ _ h => answers_ok h) F2 d2 (st2 n) d2_ok (show Cov _ (env n) (tab ρ n) b2 from ⟨⟨trivial, ⟨trivial, trivial⟩⟩, ⟨⟨trivial, ⟨trivial, lp6_ok n hl⟩⟩, trivial⟩⟩) (fun c Ko s nx => step2 ρ n c Ko s nx) n A Ko r K h hk
def enc (a : Int × (List Int) × Int × (List Int) × Int) : List AV := [.pv (.int .i64 a.1), .aa (.ints .i64 a.2.1), .pv (.int .i64 a.2.2.1), .aa (.ints .i64 a.2.2.2.1), .pv (.int .i64 a.2.2.2.2)]
def dec : List AV → Option (Int × (List Int) × Int × (List Int) × Int)
  | [.pv (.int .i64 p0), .aa (.ints .i64 d1), .pv (.int .i64 degree2), .aa (.ints .i64 a3), .pv (.int .i64 k_4)] => some (p0, d1, degree2, a3, k_4)
  | _ => none
def emb (b : Bool) : AV × List AV := (.pv (.bool b), [])
def dr : AV → List AV → Option (Bool)
  | .pv (.bool r0), [] => some r0
  | _, _ => none
theorem dec_ok (vs : List AV) (a : Int × (List Int) × Int × (List Int) × Int) (h : dec vs = some a) : vs = enc a := by
  unfold dec at h
  split at h
  · cases h; rfl
  · cases h
theorem dr_ok (v : AV) (o : List AV) (b : Bool) (h : dr v o = some b) : emb b = (v, o) := by
  unfold dr at h
  split at h
  · cases h; rfl
  · cases h
noncomputable def ent (n : Nat) : Ent := { f := 113, ms := [.lend, .lend, .lend, .lend, .lend], α := Int × (List Int) × Int × (List Int) × Int, β := Bool, dec := dec, enc := enc, emb := emb, m := fun a => Gm.field_divides n a.1 a.2.1 a.2.2.1 a.2.2.2.1 a.2.2.2.2, hdec := dec_ok }
theorem run (n : Nat) (a : Int × (List Int) × Int × (List Int) × Int) : AEO (env n) (answers (Bool) (used n) (used n)) (tab (Bool) n) body (frameOf (enc a) 0) (bodyO (env n) Tryd.f113.results.toList (enc a) dr) = (ent n).m a := by kernel_rfl
theorem ok (n : Nat) (hl : EntsOK Tryd.prog gl (used n)) : EntOK Tryd.prog gl (ent n) :=
  fnO_sound (P := Tryd.prog) (e := ent n) (fn := Tryd.f113) (body := body) (l := used n) (te := te) (gl := gl) (n := ⟨6, 53⟩) (cut := []) (keep := keep) (T := tab (Bool) n) (dr := dr) Tryd.func113 (by kernel_rfl) (by kernel_rfl) te_ok (by kernel_rfl) (by kernel_rfl) hl (show Cov _ (env n) (tab (Bool) n) body from ⟨trivial, ⟨⟨trivial, lp2_ok n hl⟩, ⟨trivial, trivial⟩⟩⟩) dr_ok (fun a => ⟨rfl, rfl⟩) (run n)
theorem all_ok (n : Nat) : EntOK Tryd.prog gl (ent n) := ok n trivial
end W_field_divides
namespace W_field_irreducible
noncomputable def body : Code := Tryd.f78.body.getD .skip
def keep : List (Nat × List Nat) := [(3, [0, 1, 5, 7]), (7, [0, 1, 5, 7, 8, 19, 20]), (11, [0, 1, 5, 7, 26, 27])]
noncomputable def used (n : Nat) : List Ent := [W_field_digits.ent n, W_field_divides.ent n]
noncomputable def env (n : Nat) : Env := envOf te gl (used n) ⟨5, 42⟩ [] keep
def F7 (c : Int × Int × (List Int) × Int × Int) (s : Int × Int) : Fr := [(0, .pv (.int .i64 c.1)), (1, .pv (.int .i64 c.2.1)), (5, .ba (.ints .i64 c.2.2.1)), (7, .pv (.int .i64 c.2.2.2.1)), (8, .pv (.int .i64 s.1)), (19, .pv (.int .i64 c.2.2.2.2)), (20, .pv (.int .i64 s.2))]
def d7 : Fr → Option ((Int × Int × (List Int) × Int × Int) × (Int × Int))
  | [(0, .pv (.int .i64 p0)), (1, .pv (.int .i64 k_1)), (5, .ba (.ints .i64 low5)), (7, .pv (.int .i64 degree7)), (8, .pv (.int .i64 many8)), (19, .pv (.int .i64 t19)), (20, .pv (.int .i64 t20))] => some ((p0, k_1, low5, degree7, t19), (many8, t20))
  | _ => none
def st7 {ρ : Type} (n : Nat) (c : Int × Int × (List Int) × Int × Int) (Ko : Exit → Fr → Option ρ) (s : Int × Int) (nx : (Int × Int) → Option ρ) : Option ρ :=
  Gm.field_irreducible_s7 n c.1 c.2.1 c.2.2.1 c.2.2.2.1 c.2.2.2.2 s.1 s.2 (fun a0 a1 => nx (a0, a1)) (fun (y0 : Int) => Ko (.exit 2) [(0, .pv (.int .i64 c.1)), (1, .pv (.int .i64 c.2.1)), (5, .ba (.ints .i64 c.2.2.1)), (7, .pv (.int .i64 c.2.2.2.1)), (8, .pv (.int .i64 y0))])
def F11 (c : Int × Int × (List Int) × Int × Int) (s : Int) : Fr := [(0, .pv (.int .i64 c.1)), (1, .pv (.int .i64 c.2.1)), (5, .ba (.ints .i64 c.2.2.1)), (7, .pv (.int .i64 c.2.2.2.1)), (26, .pv (.int .i64 c.2.2.2.2)), (27, .pv (.int .i64 s))]
def d11 : Fr → Option ((Int × Int × (List Int) × Int × Int) × (Int))
  | [(0, .pv (.int .i64 p0)), (1, .pv (.int .i64 k_1)), (5, .ba (.ints .i64 low5)), (7, .pv (.int .i64 degree7)), (26, .pv (.int .i64 t26)), (27, .pv (.int .i64 t27))] => some ((p0, k_1, low5, degree7, t26), t27)
  | _ => none
def st11 {ρ : Type} (n : Nat) (c : Int × Int × (List Int) × Int × Int) (Ko : Exit → Fr → Option ρ) (s : Int) (nx : Int → Option ρ) : Option ρ :=
  Gm.field_irreducible_s11 n c.1 c.2.1 c.2.2.1 c.2.2.2.1 c.2.2.2.2 s nx (Ko .ret [(6, .pv (.bool false))]) (Ko (.exit 4) [(0, .pv (.int .i64 c.1)), (1, .pv (.int .i64 c.2.1)), (5, .ba (.ints .i64 c.2.2.1)), (7, .pv (.int .i64 c.2.2.2.1))])
def F3 (c : Int × Int × (List Int)) (s : Int) : Fr := [(0, .pv (.int .i64 c.1)), (1, .pv (.int .i64 c.2.1)), (5, .ba (.ints .i64 c.2.2)), (7, .pv (.int .i64 s))]
def d3 : Fr → Option ((Int × Int × (List Int)) × (Int))
  | [(0, .pv (.int .i64 p0)), (1, .pv (.int .i64 k_1)), (5, .ba (.ints .i64 low5)), (7, .pv (.int .i64 degree7))] => some ((p0, k_1, low5), degree7)
  | _ => none
def st3 {ρ : Type} (n : Nat) (c : Int × Int × (List Int)) (Ko : Exit → Fr → Option ρ) (s : Int) (nx : Int → Option ρ) : Option ρ :=
  Gm.field_irreducible_s3 n c.1 c.2.1 c.2.2 s nx (Ko .ret [(6, .pv (.bool false))]) (Ko (.exit 0) [])
noncomputable def tab (ρ : Type) (n : Nat) : Tab ρ := { live := [(0, [0, 1, 5]), (1, [0, 1, 5]), (2, [0, 1, 5, 7]), (3, [0, 1, 5, 7, 16]), (4, [0, 1, 5, 7]), (5, [0, 1, 5, 7, 8]), (6, [0, 1, 5, 7, 8, 19, 20]), (7, [0, 1, 5, 7, 8, 19, 20, 21]), (8, [0, 1, 5, 7, 8, 19, 20]), (9, [0, 1, 5, 7, 8, 19, 20]), (10, [0, 1, 5, 7, 26, 27]), (11, [0, 1, 5, 7, 26, 27, 28]), (12, [0, 1, 5, 7, 9, 26, 27]), (13, [0, 1, 5, 7, 10, 26, 27]), (14, [0, 1, 5, 7, 10, 26, 27]), (15, [0, 1, 5, 7, 26, 27, 40]), (16, [6]), (17, [0, 1, 5, 7, 26, 27]), (18, [6])], xl := [(0, []), (1, [0, 1, 5, 7]), (2, [0, 1, 5, 7, 8]), (3, [0, 1, 5, 7, 8, 19, 20]), (4, [0, 1, 5, 7]), (5, [0, 1, 5, 7, 26, 27])], rl := [6], fz := [], jp := [], lp := [(7, fun A Ko => bnd (d7 A) fun p => iterM (st7 n p.1 Ko) n p.2), (11, fun A Ko => bnd (d11 A) fun p => iterM (st11 n p.1 Ko) n p.2), (3, fun A Ko => bnd (d3 A) fun p => iterM (st3 n p.1 Ko) n p.2)] }
noncomputable def b7 : Code := (cL (cB (c2 (c1 (c2 (cB (c1 (c2 (cL (cB (c2 (c1 (c2 (c2 body))))))))))))))
theorem d7_ok (A : Fr) (c : Int × Int × (List Int) × Int × Int) (s : Int × Int) (h : d7 A = some (c, s)) : A = F7 c s := by
  unfold d7 at h
  split at h
  · cases h; rfl
  · cases h
theorem step7 (ρ : Type) (n : Nat) (c : Int × Int × (List Int) × Int × Int) (Ko : Exit → Fr → Option ρ) (s : Int × Int) (nx : (Int × Int × (List Int) × Int × Int) → (Int × Int) → Option ρ) :
    AEO (env n) (answers ρ (used n) (used n)) (tab ρ n) b7 (F7 c s) (thenO (fun A => bnd (d7 (restr (keepOf (env n) b7) A)) fun p => nx p.1 p.2) Ko) = st7 n c Ko s (nx c) := by kernel_rfl
theorem lp7_ok {ρ : Type} (n : Nat) (hl : EntsOK Tryd.prog gl (used n)) : ∀ (A : Fr) (Ko : Exit → Fr → Option ρ) (r : ρ) (K : Exit → Fr → Prop), (bnd (d7 (restr (keepOf (env n) b7) A)) fun p => iterM (st7 n p.1 Ko) n p.2) = some r → (∀ e A, Ko e A = some r → K e A) → Gx.Sem Tryd.prog (env n) (.loop b7) A K :=
  fun A Ko r K h hk => loop_cod (P := Tryd.prog) (E := env n) (T := tab ρ n) (fun _ _ _ h => answers_ok h) F7 d7 (st7 n) d7_ok (show Cov _ (env n) (tab ρ n) b7 from ⟨trivial, ⟨⟨trivial, trivial⟩, ⟨trivial, trivial⟩⟩⟩) (fun c Ko s nx => step7 ρ n c Ko s nx) n A Ko r K h hk
noncomputable def b11 : Code := (cL (cB (c2 (c2 (c2 (cB (c1 (c2 (cL (cB (c2 (c1 (c2 (c2 body))))))))))))))
theorem d11_ok (A : Fr) (c : Int × Int × (List Int) × Int × Int) (s : Int) (h : d11 A = some (c, s)) : A = F11 c s := by
  unfold d11 at h
  split at h
  · cases h; rfl
  · cases h
theorem step11 (ρ : Type) (n : Nat) (c : Int × Int × (List Int) × Int × Int) (Ko : Exit → Fr → Option ρ) (s : Int) (nx : (Int × Int × (List Int) × Int × Int) → (Int) → Option ρ) :
    AEO (env n) (answers ρ (used n) (used n)) (tab ρ n) b11 (F11 c s) (thenO (fun A => bnd (d11 (restr (keepOf (env n) b11) A)) fun p => nx p.1 p.2) Ko) = st11 n c Ko s (nx c) := by kernel_rfl
theorem lp11_ok {ρ : Type} (n : Nat) (hl : EntsOK Tryd.prog gl (used n)) : ∀ (A : Fr) (Ko : Exit → Fr → Option ρ) (r : ρ) (K : Exit → Fr → Prop), (bnd (d11 (restr (keepOf (env n) b11) A)) fun p => iterM (st11 n p.1 Ko) n p.2) = some r → (∀ e A, Ko e A = some r → K e A) → Gx.Sem Tryd.prog (env n) (.loop b11) A K :=
  fun A Ko r K h hk => loop_cod (P := Tryd.prog) (E := env n) (T := tab ρ n) (fun _ _ _ h => answers_ok h) F11 d11 (st11 n) d11_ok (show Cov _ (env n) (tab ρ n) b11 from ⟨trivial, ⟨⟨trivial, trivial⟩, ⟨⟨trivial, ⟨trivial, ⟨trivial, ⟨trivial, ⟨⟨trivial, trivial⟩, trivial⟩⟩⟩⟩⟩, trivial⟩⟩⟩) (fun c Ko s nx => step11 ρ n c Ko s nx) n A Ko r K h hk
noncomputable def b3 : Code := (cL (cB (c2 (c1 (c2 (c2 body))))))
theorem d3_ok (A : Fr) (c : Int × Int × (List Int)) (s : Int) (h : d3 A = some (c, s)) : A = F3 c s := by
  unfold d3 at h
  split at h
  · cases h; rfl
  · cases h
theorem step3 (ρ : Type) (n : Nat) (c : Int × Int × (List Int)) (Ko : Exit → Fr → Option ρ) (s : Int) (nx : (Int × Int × (List Int)) → (Int) → Option ρ) :
    AEO (env n) (answers ρ (used n) (used n)) (tab ρ n) b3 (F3 c s) (thenO (fun A => bnd (d3 (restr (keepOf (env n) b3) A)) fun p => nx p.1 p.2) Ko) = st3 n c Ko s (nx c) := by kernel_rfl
theorem lp3_ok {ρ : Type} (n : Nat) (hl : EntsOK Tryd.prog gl (used n)) : ∀ (A : Fr) (Ko : Exit → Fr → Option ρ) (r : ρ) (K : Exit → Fr → Prop), (bnd (d3 (restr (keepOf (env n) b3) A)) fun p => iterM (st3 n p.1 Ko) n p.2) = some r → (∀ e A, Ko e A = some r → K e A) → Gx.Sem Tryd.prog (env n) (.loop b3) A K :=
  fun A Ko r K h hk => loop_cod (P := Tryd.prog) (E := env n) (T := tab ρ n) (fun _ _ _ h => answers_ok h) F3 d3 (st3 n) d3_ok (show Cov _ (env n) (tab ρ n) b3 from ⟨⟨trivial, ⟨trivial, trivial⟩⟩, ⟨⟨trivial, ⟨⟨trivial, lp7_ok n hl⟩, ⟨trivial, lp11_ok n hl⟩⟩⟩, trivial⟩⟩) (fun c Ko s nx => step3 ρ n c Ko s nx) n A Ko r K h hk
def enc (a : Int × Int × (List Int)) : List AV := [.pv (.int .i64 a.1), .pv (.int .i64 a.2.1), .aa (.ints .i64 a.2.2)]
def dec : List AV → Option (Int × Int × (List Int))
  | [.pv (.int .i64 p0), .pv (.int .i64 k_1), .aa (.ints .i64 low2)] => some (p0, k_1, low2)
  | _ => none
def emb (b : Bool) : AV × List AV := (.pv (.bool b), [])
def dr : AV → List AV → Option (Bool)
  | .pv (.bool r0), [] => some r0
  | _, _ => none
theorem dec_ok (vs : List AV) (a : Int × Int × (List Int)) (h : dec vs = some a) : vs = enc a := by
  unfold dec at h
  split at h
  · cases h; rfl
  · cases h
theorem dr_ok (v : AV) (o : List AV) (b : Bool) (h : dr v o = some b) : emb b = (v, o) := by
  unfold dr at h
  split at h
  · cases h; rfl
  · cases h
noncomputable def ent (n : Nat) : Ent := { f := 78, ms := [.lend, .lend, .lend], α := Int × Int × (List Int), β := Bool, dec := dec, enc := enc, emb := emb, m := fun a => Gm.field_irreducible n a.1 a.2.1 a.2.2, hdec := dec_ok }
theorem run (n : Nat) (a : Int × Int × (List Int)) : AEO (env n) (answers (Bool) (used n) (used n)) (tab (Bool) n) body (frameOf (enc a) 0) (bodyO (env n) Tryd.f78.results.toList (enc a) dr) = (ent n).m a := by kernel_rfl
theorem ok (n : Nat) (hl : EntsOK Tryd.prog gl (used n)) : EntOK Tryd.prog gl (ent n) :=
  fnO_sound (P := Tryd.prog) (e := ent n) (fn := Tryd.f78) (body := body) (l := used n) (te := te) (gl := gl) (n := ⟨5, 42⟩) (cut := []) (keep := keep) (T := tab (Bool) n) (dr := dr) Tryd.func78 (by kernel_rfl) (by kernel_rfl) te_ok (by kernel_rfl) (by kernel_rfl) hl (show Cov _ (env n) (tab (Bool) n) body from ⟨trivial, ⟨trivial, ⟨⟨trivial, lp3_ok n hl⟩, ⟨trivial, trivial⟩⟩⟩⟩) dr_ok (fun a => ⟨rfl, rfl⟩) (run n)
theorem all_ok (n : Nat) : EntOK Tryd.prog gl (ent n) := ok n ⟨W_field_digits.all_ok n, W_field_divides.all_ok n, trivial⟩
end W_field_irreducible
namespace W_field_Least
noncomputable def body : Code := Tryd.f34.body.getD .skip
def keep : List (Nat × List Nat) := [(5, [0, 1, 4, 19, 20])]
noncomputable def used (n : Nat) : List Ent := [W_field_order.ent n, W_field_digits.ent n, W_field_irreducible.ent n]
noncomputable def env (n : Nat) : Env := envOf te gl (used n) ⟨4, 39⟩ [] keep
def F5 (c : Int × Int × Int × Int × (List Int) × Int) (s : Int) : Fr := [(0, .pv (.int .i64 c.1)), (1, .pv (.int .i64 c.2.1)), (4, .bx [.pv (.int .i64 c.2.2.1), .pv (.int .i64 c.2.2.2.1), .ow 3 (.ints .i64 c.2.2.2.2.1)]), (19, .pv (.int .i64 c.2.2.2.2.2)), (20, .pv (.int .i64 s))]
def d5 : Fr → Option ((Int × Int × Int × Int × (List Int) × Int) × (Int))
  | [(0, .pv (.int .i64 prime0)), (1, .pv (.int .i64 degree1)), (4, .bx [.pv (.int .i64 t4_0), .pv (.int .i64 t4_1), .ow 3 (.ints .i64 t4_2)]), (19, .pv (.int .i64 t19)), (20, .pv (.int .i64 t20))] => some ((prime0, degree1, t4_0, t4_1, t4_2, t19), t20)
  | _ => none
def st5 {ρ : Type} (n : Nat) (c : Int × Int × Int × Int × (List Int) × Int) (Ko : Exit → Fr → Option ρ) (s : Int) (nx : Int → Option ρ) : Option ρ :=
  Gm.field_Least_s5 n c.1 c.2.1 c.2.2.1 c.2.2.2.1 c.2.2.2.2.1 c.2.2.2.2.2 s nx (fun (y0 : List Int) => Ko .ret [(5, .pv (.int .i64 0)), (4, .bx [.pv (.int .i64 c.1), .pv (.int .i64 c.2.1), .sl (.ints .i64 y0)])]) (Ko (.exit 0) [(4, .bx [.pv (.int .i64 c.2.2.1), .pv (.int .i64 c.2.2.2.1), .ow 3 (.ints .i64 c.2.2.2.2.1)])])
noncomputable def tab (ρ : Type) (n : Nat) : Tab ρ := { live := [(0, [0, 1, 4]), (1, [0, 1, 4, 6, 7]), (2, [0, 1, 4, 6, 17]), (3, [4, 5]), (4, [0, 1, 4, 19, 20]), (5, [0, 1, 4, 19, 20, 21]), (6, [0, 1, 4, 8, 19, 20]), (7, [0, 1, 4, 9, 19, 20]), (8, [0, 1, 4, 9, 19, 20, 29]), (9, [4, 5]), (10, [0, 1, 4, 19, 20]), (11, [4, 5])], xl := [(0, [4]), (1, [0, 1, 4, 19, 20])], rl := [4, 5], fz := [], jp := [], lp := [(5, fun A Ko => bnd (d5 A) fun p => iterM (st5 n p.1 Ko) n p.2)] }
noncomputable def b5 : Code := (cL (cB (c2 (c1 (c2 (c2 (c2 body)))))))
theorem d5_ok (A : Fr) (c : Int × Int × Int × Int × (List Int) × Int) (s : Int) (h : d5 A = some (c, s)) : A = F5 c s := by
  unfold d5 at h
  split at h
  · cases h; rfl
  · cases h
theorem step5 (ρ : Type) (n : Nat) (c : Int × Int × Int × Int × (List Int) × Int) (Ko : Exit → Fr → Option ρ) (s : Int) (nx : (Int × Int × Int × Int × (List Int) × Int) → (Int) → Option ρ) :
    AEO (env n) (answers ρ (used n) (used n)) (tab ρ n) b5 (F5 c s) (thenO (fun A => bnd (d5 (restr (keepOf (env n) b5) A)) fun p => nx p.1 p.2) Ko) = st5 n c Ko s (nx c) := by kernel_rfl
theorem lp5_ok {ρ : Type} (n : Nat) (hl : EntsOK Tryd.prog gl (used n)) : ∀ (A : Fr) (Ko : Exit → Fr → Option ρ) (r : ρ) (K : Exit → Fr → Prop), (bnd (d5 (restr (keepOf (env n) b5) A)) fun p => iterM (st5 n p.1 Ko) n p.2) = some r → (∀ e A, Ko e A = some r → K e A) → Gx.Sem Tryd.prog (env n) (.loop b5) A K :=
  fun A Ko r K h hk => loop_cod (P := Tryd.prog) (E := env n) (T := tab ρ n) (fun _ _ _ h => answers_ok h) F5 d5 (st5 n) d5_ok (show Cov _ (env n) (tab ρ n) b5 from ⟨trivial, ⟨⟨trivial, trivial⟩, ⟨⟨trivial, ⟨trivial, ⟨trivial, ⟨⟨trivial, trivial⟩, trivial⟩⟩⟩⟩, trivial⟩⟩⟩) (fun c Ko s nx => step5 ρ n c Ko s nx) n A Ko r K h hk
def enc (a : Int × Int) : List AV := [.pv (.int .i64 a.1), .pv (.int .i64 a.2)]
def dec : List AV → Option (Int × Int)
  | [.pv (.int .i64 prime0), .pv (.int .i64 degree1)] => some (prime0, degree1)
  | _ => none
def emb (b : Int × Int × (List Int) × Int) : AV × List AV := (.tp [.ag [.pv (.int .i64 b.1), .pv (.int .i64 b.2.1), .sl (.ints .i64 b.2.2.1)], .pv (.int .i64 b.2.2.2)], [])
def dr : AV → List AV → Option (Int × Int × (List Int) × Int)
  | .tp [.ag [.pv (.int .i64 r0), .pv (.int .i64 r1), .sl (.ints .i64 r2)], .pv (.int .i64 r3)], [] => some (r0, r1, r2, r3)
  | _, _ => none
theorem dec_ok (vs : List AV) (a : Int × Int) (h : dec vs = some a) : vs = enc a := by
  unfold dec at h
  split at h
  · cases h; rfl
  · cases h
theorem dr_ok (v : AV) (o : List AV) (b : Int × Int × (List Int) × Int) (h : dr v o = some b) : emb b = (v, o) := by
  unfold dr at h
  split at h
  · cases h; rfl
  · cases h
noncomputable def ent (n : Nat) : Ent := { f := 34, ms := [.lend, .lend], α := Int × Int, β := Int × Int × (List Int) × Int, dec := dec, enc := enc, emb := emb, m := fun a => Gm.field_Least n a.1 a.2, hdec := dec_ok }
theorem run (n : Nat) (a : Int × Int) : AEO (env n) (answers (Int × Int × (List Int) × Int) (used n) (used n)) (tab (Int × Int × (List Int) × Int) n) body (frameOf (enc a) 0) (bodyO (env n) Tryd.f34.results.toList (enc a) dr) = (ent n).m a := by kernel_rfl
theorem ok (n : Nat) (hl : EntsOK Tryd.prog gl (used n)) : EntOK Tryd.prog gl (ent n) :=
  fnO_sound (P := Tryd.prog) (e := ent n) (fn := Tryd.f34) (body := body) (l := used n) (te := te) (gl := gl) (n := ⟨4, 39⟩) (cut := []) (keep := keep) (T := tab (Int × Int × (List Int) × Int) n) (dr := dr) Tryd.func34 (by kernel_rfl) (by kernel_rfl) te_ok (by kernel_rfl) (by kernel_rfl) hl (show Cov _ (env n) (tab (Int × Int × (List Int) × Int) n) body from ⟨trivial, ⟨trivial, ⟨⟨trivial, ⟨⟨trivial, trivial⟩, trivial⟩⟩, ⟨⟨trivial, lp5_ok n hl⟩, ⟨trivial, trivial⟩⟩⟩⟩⟩) dr_ok (fun a => ⟨rfl, rfl⟩) (run n)
theorem all_ok (n : Nat) : EntOK Tryd.prog gl (ent n) := ok n ⟨W_field_order.all_ok n, W_field_digits.all_ok n, W_field_irreducible.all_ok n, trivial⟩
end W_field_Least
namespace W_field_open
noncomputable def body : Code := Tryd.f50.body.getD .skip
def keep : List (Nat × List Nat) := [(8, [1, 2, 4, 6, 28, 29, 30])]
noncomputable def used (n : Nat) : List Ent := [W_field_order.ent n, W_field_irreducible.ent n]
noncomputable def env (n : Nat) : Env := envOf te gl (used n) ⟨1, 59⟩ [] keep
def F8 (c : Int × Int × (List Int) × Int × Int × (List Int) × Int × Int × (List Int) × Int) (s : (List Int) × Int) : Fr := [(1, .bx [.pv (.int .i64 c.1), .pv (.int .i64 c.2.1), .sl (.ints .i64 c.2.2.1)]), (2, .bx [.pv (.int .i64 c.2.2.2.1), .pv (.int .i64 c.2.2.2.2.1), .ow 3 (.ints .i64 c.2.2.2.2.2.1), .pv (.int .i64 c.2.2.2.2.2.2.1)]), (4, .pv (.int .i64 c.2.2.2.2.2.2.2.1)), (6, .ba (.ints .i64 s.1)), (28, .sl (.ints .i64 c.2.2.2.2.2.2.2.2.1)), (29, .pv (.int .i64 c.2.2.2.2.2.2.2.2.2)), (30, .pv (.int .i64 s.2))]
def d8 : Fr → Option ((Int × Int × (List Int) × Int × Int × (List Int) × Int × Int × (List Int) × Int) × ((List Int) × Int))
  | [(1, .bx [.pv (.int .i64 f1_0), .pv (.int .i64 f1_1), .sl (.ints .i64 f1_2)]), (2, .bx [.pv (.int .i64 t2_0), .pv (.int .i64 t2_1), .ow 3 (.ints .i64 t2_2), .pv (.int .i64 t2_3)]), (4, .pv (.int .i64 q4)), (6, .ba (.ints .i64 low6)), (28, .sl (.ints .i64 t28)), (29, .pv (.int .i64 t29)), (30, .pv (.int .i64 t30))] => some ((f1_0, f1_1, f1_2, t2_0, t2_1, t2_2, t2_3, q4, t28, t29), (low6, t30))
  | _ => none
def st8 {ρ : Type} (n : Nat) (c : Int × Int × (List Int) × Int × Int × (List Int) × Int × Int × (List Int) × Int) (Ko : Exit → Fr → Option ρ) (s : (List Int) × Int) (nx : ((List Int) × Int) → Option ρ) : Option ρ :=
  Gm.field_open_s8 n c.1 c.2.1 c.2.2.1 c.2.2.2.1 c.2.2.2.2.1 c.2.2.2.2.2.1 c.2.2.2.2.2.2.1 c.2.2.2.2.2.2.2.1 c.2.2.2.2.2.2.2.2.1 c.2.2.2.2.2.2.2.2.2 s.1 s.2 (fun a0 a1 => nx (a0, a1)) (fun (y0 : List Int) => Ko .ret [(3, .pv (.int .i64 1)), (2, .bx [.pv (.int .i64 0), .pv (.int .i64 0), .nl 3 (.ints .i64 y0), .pv (.int .i64 0)])]) (fun (y0 : List Int) => Ko (.exit 0) [(1, .bx [.pv (.int .i64 c.1), .pv (.int .i64 c.2.1), .sl (.ints .i64 c.2.2.1)]), (2, .bx [.pv (.int .i64 c.2.2.2.1), .pv (.int .i64 c.2.2.2.2.1), .ow 3 (.ints .i64 c.2.2.2.2.2.1), .pv (.int .i64 c.2.2.2.2.2.2.1)]), (4, .pv (.int .i64 c.2.2.2.2.2.2.2.1)), (6, .ba (.ints .i64 y0))])
noncomputable def tab (ρ : Type) (n : Nat) : Tab ρ := { live := [(0, [1, 2]), (1, [1, 2, 4, 5]), (2, [1, 2, 4, 18]), (3, [2, 3]), (4, [1, 2, 4, 25]), (5, [2, 3]), (6, [1, 2, 4, 6]), (7, [1, 2, 4, 6, 28, 29, 30]), (8, [1, 2, 4, 6, 28, 29, 30, 31]), (9, [1, 2, 4, 6, 7, 8, 28, 29, 30]), (10, [1, 2, 4, 6, 7, 8, 28, 29, 30, 42]), (11, [2, 3]), (12, [1, 2, 4, 6, 28, 29, 30]), (13, [1, 2, 4, 6, 28, 29, 30]), (14, [1, 2, 4, 54]), (15, [2, 3]), (16, [2, 3])], xl := [(0, [1, 2, 4, 6]), (1, [1, 2, 4, 6, 28, 29, 30])], rl := [2, 3], fz := [], jp := [], lp := [(8, fun A Ko => bnd (d8 A) fun p => iterM (st8 n p.1 Ko) n p.2)] }
noncomputable def b8 : Code := (cL (cB (c2 (c1 (c2 (c2 (c2 (c2 (c2 body)))))))))
theorem d8_ok (A : Fr) (c : Int × Int × (List Int) × Int × Int × (List Int) × Int × Int × (List Int) × Int) (s : (List Int) × Int) (h : d8 A = some (c, s)) : A = F8 c s := by
  unfold d8 at h
  split at h
  · cases h; rfl
  · cases h
theorem step8 (ρ : Type) (n : Nat) (c : Int × Int × (List Int) × Int × Int × (List Int) × Int × Int × (List Int) × Int) (Ko : Exit → Fr → Option ρ) (s : (List Int) × Int) (nx : (Int × Int × (List Int) × Int × Int × (List Int) × Int × Int × (List Int) × Int) → ((List Int) × Int) → Option ρ) :
    AEO (env n) (answers ρ (used n) (used n)) (tab ρ n) b8 (F8 c s) (thenO (fun A => bnd (d8 (restr (keepOf (env n) b8) A)) fun p => nx p.1 p.2) Ko) = st8 n c Ko s (nx c) := by kernel_rfl
theorem lp8_ok {ρ : Type} (n : Nat) (hl : EntsOK Tryd.prog gl (used n)) : ∀ (A : Fr) (Ko : Exit → Fr → Option ρ) (r : ρ) (K : Exit → Fr → Prop), (bnd (d8 (restr (keepOf (env n) b8) A)) fun p => iterM (st8 n p.1 Ko) n p.2) = some r → (∀ e A, Ko e A = some r → K e A) → Gx.Sem Tryd.prog (env n) (.loop b8) A K :=
  fun A Ko r K h hk => loop_cod (P := Tryd.prog) (E := env n) (T := tab ρ n) (fun _ _ _ h => answers_ok h) F8 d8 (st8 n) d8_ok (show Cov _ (env n) (tab ρ n) b8 from ⟨trivial, ⟨⟨trivial, trivial⟩, ⟨⟨trivial, ⟨⟨trivial, ⟨⟨trivial, trivial⟩, trivial⟩⟩, trivial⟩⟩, trivial⟩⟩⟩) (fun c Ko s nx => step8 ρ n c Ko s nx) n A Ko r K h hk
def enc (a : Int × Int × (List Int)) : List AV := [.ag [.pv (.int .i64 a.1), .pv (.int .i64 a.2.1), .sl (.ints .i64 a.2.2)]]
def dec : List AV → Option (Int × Int × (List Int))
  | [.ag [.pv (.int .i64 f0_0), .pv (.int .i64 f0_1), .sl (.ints .i64 f0_2)]] => some (f0_0, f0_1, f0_2)
  | _ => none
def emb (b : Int × Int × (List Int) × Int × Int) : AV × List AV := (.tp [.ag [.pv (.int .i64 b.1), .pv (.int .i64 b.2.1), .sl (.ints .i64 b.2.2.1), .pv (.int .i64 b.2.2.2.1)], .pv (.int .i64 b.2.2.2.2)], [])
def dr : AV → List AV → Option (Int × Int × (List Int) × Int × Int)
  | .tp [.ag [.pv (.int .i64 r0), .pv (.int .i64 r1), .sl (.ints .i64 r2), .pv (.int .i64 r3)], .pv (.int .i64 r4)], [] => some (r0, r1, r2, r3, r4)
  | _, _ => none
theorem dec_ok (vs : List AV) (a : Int × Int × (List Int)) (h : dec vs = some a) : vs = enc a := by
  unfold dec at h
  split at h
  · cases h; rfl
  · cases h
theorem dr_ok (v : AV) (o : List AV) (b : Int × Int × (List Int) × Int × Int) (h : dr v o = some b) : emb b = (v, o) := by
  unfold dr at h
  split at h
  · cases h; rfl
  · cases h
noncomputable def ent (n : Nat) : Ent := { f := 50, ms := [.frz], α := Int × Int × (List Int), β := Int × Int × (List Int) × Int × Int, dec := dec, enc := enc, emb := emb, m := fun a => Gm.field_open n a.1 a.2.1 a.2.2, hdec := dec_ok }
theorem run (n : Nat) (a : Int × Int × (List Int)) : AEO (env n) (answers (Int × Int × (List Int) × Int × Int) (used n) (used n)) (tab (Int × Int × (List Int) × Int × Int) n) body (frameOf (enc a) 0) (bodyO (env n) Tryd.f50.results.toList (enc a) dr) = (ent n).m a := by kernel_rfl
theorem ok (n : Nat) (hl : EntsOK Tryd.prog gl (used n)) : EntOK Tryd.prog gl (ent n) :=
  fnO_sound (P := Tryd.prog) (e := ent n) (fn := Tryd.f50) (body := body) (l := used n) (te := te) (gl := gl) (n := ⟨1, 59⟩) (cut := []) (keep := keep) (T := tab (Int × Int × (List Int) × Int × Int) n) (dr := dr) Tryd.func50 (by kernel_rfl) (by kernel_rfl) te_ok (by kernel_rfl) (by kernel_rfl) hl (show Cov _ (env n) (tab (Int × Int × (List Int) × Int × Int) n) body from ⟨trivial, ⟨trivial, ⟨⟨trivial, ⟨⟨trivial, trivial⟩, trivial⟩⟩, ⟨⟨trivial, ⟨⟨trivial, trivial⟩, trivial⟩⟩, ⟨trivial, ⟨⟨trivial, lp8_ok n hl⟩, ⟨⟨trivial, ⟨⟨trivial, trivial⟩, trivial⟩⟩, ⟨trivial, trivial⟩⟩⟩⟩⟩⟩⟩⟩) dr_ok (fun a => ⟨rfl, rfl⟩) (run n)
theorem all_ok (n : Nat) : EntOK Tryd.prog gl (ent n) := ok n ⟨W_field_order.all_ok n, W_field_irreducible.all_ok n, trivial⟩
end W_field_open
namespace W_field_room_shift
noncomputable def body : Code := Tryd.f115.body.getD .skip
def keep : List (Nat × List Nat) := [(4, [2, 3, 4, 5, 6, 16, 17])]
noncomputable def used (_n : Nat) : List Ent := []
noncomputable def env (n : Nat) : Env := envOf te gl (used n) ⟨2, 52⟩ [] keep
def F4 (c : Int × Int × (List Int) × Int × (List Int) × (List Int) × Int × Int) (s : (List Int) × Int) : Fr := [(2, .bx [.pv (.int .i64 c.1), .pv (.int .i64 c.2.1), .ls (.ints .i64 c.2.2.1), .pv (.int .i64 c.2.2.2.1)]), (3, .ba (.ints .i64 c.2.2.2.2.1)), (4, .ba (.ints .i64 c.2.2.2.2.2.1)), (5, .ba (.ints .i64 s.1)), (6, .pv (.int .i64 c.2.2.2.2.2.2.1)), (16, .pv (.int .i64 c.2.2.2.2.2.2.2)), (17, .pv (.int .i64 s.2))]
def d4 : Fr → Option ((Int × Int × (List Int) × Int × (List Int) × (List Int) × Int × Int) × ((List Int) × Int))
  | [(2, .bx [.pv (.int .i64 r2_0), .pv (.int .i64 r2_1), .ls (.ints .i64 r2_2), .pv (.int .i64 r2_3)]), (3, .ba (.ints .i64 a3)), (4, .ba (.ints .i64 t4)), (5, .ba (.ints .i64 out5)), (6, .pv (.int .i64 top6)), (16, .pv (.int .i64 t16)), (17, .pv (.int .i64 t17))] => some ((r2_0, r2_1, r2_2, r2_3, a3, t4, top6, t16), (out5, t17))
  | _ => none
def st4 {ρ : Type} (n : Nat) (c : Int × Int × (List Int) × Int × (List Int) × (List Int) × Int × Int) (Ko : Exit → Fr → Option ρ) (s : (List Int) × Int) (nx : ((List Int) × Int) → Option ρ) : Option ρ :=
  Gm.field_room_shift_s4 n c.1 c.2.1 c.2.2.1 c.2.2.2.1 c.2.2.2.2.1 c.2.2.2.2.2.1 c.2.2.2.2.2.2.1 c.2.2.2.2.2.2.2 s.1 s.2 (fun a0 a1 => nx (a0, a1)) (fun (y0 : List Int) => Ko (.exit 0) [(4, .ba (.ints .i64 c.2.2.2.2.2.1)), (5, .ba (.ints .i64 y0))])
noncomputable def tab (ρ : Type) (n : Nat) : Tab ρ := { live := [(0, [2, 3, 4]), (1, [2, 3, 4, 5]), (2, [2, 3, 4, 5, 6]), (3, [2, 3, 4, 5, 6, 16, 17]), (4, [2, 3, 4, 5, 6, 16, 17, 18]), (5, [2, 3, 4, 5, 6, 7, 16, 17]), (6, [2, 3, 4, 5, 6, 7, 16, 17, 21]), (7, [2, 3, 4, 5, 6, 7, 16, 17]), (8, [2, 3, 4, 5, 6, 16, 17]), (9, [2, 3, 4, 5, 6, 16, 17]), (10, [4])], xl := [(0, [4, 5]), (1, [2, 3, 4, 5, 6, 16, 17])], rl := [4], fz := [], jp := [], lp := [(4, fun A Ko => bnd (d4 A) fun p => iterM (st4 n p.1 Ko) n p.2)] }
noncomputable def b4 : Code := (cL (cB (c2 (c1 (c2 (c2 (c2 body)))))))
theorem d4_ok (A : Fr) (c : Int × Int × (List Int) × Int × (List Int) × (List Int) × Int × Int) (s : (List Int) × Int) (h : d4 A = some (c, s)) : A = F4 c s := by
  unfold d4 at h
  split at h
  · cases h; rfl
  · cases h
theorem step4 (ρ : Type) (n : Nat) (c : Int × Int × (List Int) × Int × (List Int) × (List Int) × Int × Int) (Ko : Exit → Fr → Option ρ) (s : (List Int) × Int) (nx : (Int × Int × (List Int) × Int × (List Int) × (List Int) × Int × Int) → ((List Int) × Int) → Option ρ) :
    AEO (env n) (answers ρ (used n) (used n)) (tab ρ n) b4 (F4 c s) (thenO (fun A => bnd (d4 (restr (keepOf (env n) b4) A)) fun p => nx p.1 p.2) Ko) = st4 n c Ko s (nx c) := by kernel_rfl
theorem lp4_ok {ρ : Type} (n : Nat) (hl : EntsOK Tryd.prog gl (used n)) : ∀ (A : Fr) (Ko : Exit → Fr → Option ρ) (r : ρ) (K : Exit → Fr → Prop), (bnd (d4 (restr (keepOf (env n) b4) A)) fun p => iterM (st4 n p.1 Ko) n p.2) = some r → (∀ e A, Ko e A = some r → K e A) → Gx.Sem Tryd.prog (env n) (.loop b4) A K :=
  fun A Ko r K h hk => loop_cod (P := Tryd.prog) (E := env n) (T := tab ρ n) (fun _ _ _ h => answers_ok h) F4 d4 (st4 n) d4_ok (show Cov _ (env n) (tab ρ n) b4 from ⟨trivial, ⟨⟨trivial, trivial⟩, ⟨⟨trivial, ⟨⟨trivial, ⟨trivial, trivial⟩⟩, trivial⟩⟩, trivial⟩⟩⟩) (fun c Ko s nx => step4 ρ n c Ko s nx) n A Ko r K h hk
def enc (a : Int × Int × (List Int) × Int × (List Int)) : List AV := [.ag [.pv (.int .i64 a.1), .pv (.int .i64 a.2.1), .ls (.ints .i64 a.2.2.1), .pv (.int .i64 a.2.2.2.1)], .aa (.ints .i64 a.2.2.2.2)]
def dec : List AV → Option (Int × Int × (List Int) × Int × (List Int))
  | [.ag [.pv (.int .i64 r0_0), .pv (.int .i64 r0_1), .ls (.ints .i64 r0_2), .pv (.int .i64 r0_3)], .aa (.ints .i64 a1)] => some (r0_0, r0_1, r0_2, r0_3, a1)
  | _ => none
def emb (b : List Int) : AV × List AV := (.aa (.ints .i64 b), [])
def dr : AV → List AV → Option (List Int)
  | .aa (.ints .i64 r0), [] => some r0
  | _, _ => none
theorem dec_ok (vs : List AV) (a : Int × Int × (List Int) × Int × (List Int)) (h : dec vs = some a) : vs = enc a := by
  unfold dec at h
  split at h
  · cases h; rfl
  · cases h
theorem dr_ok (v : AV) (o : List AV) (b : List Int) (h : dr v o = some b) : emb b = (v, o) := by
  unfold dr at h
  split at h
  · cases h; rfl
  · cases h
noncomputable def ent (n : Nat) : Ent := { f := 115, ms := [.lend, .lend], α := Int × Int × (List Int) × Int × (List Int), β := List Int, dec := dec, enc := enc, emb := emb, m := fun a => Gm.field_room_shift n a.1 a.2.1 a.2.2.1 a.2.2.2.1 a.2.2.2.2, hdec := dec_ok }
theorem run (n : Nat) (a : Int × Int × (List Int) × Int × (List Int)) : AEO (env n) (answers (List Int) (used n) (used n)) (tab (List Int) n) body (frameOf (enc a) 0) (bodyO (env n) Tryd.f115.results.toList (enc a) dr) = (ent n).m a := by kernel_rfl
theorem ok (n : Nat) (hl : EntsOK Tryd.prog gl (used n)) : EntOK Tryd.prog gl (ent n) :=
  fnO_sound (P := Tryd.prog) (e := ent n) (fn := Tryd.f115) (body := body) (l := used n) (te := te) (gl := gl) (n := ⟨2, 52⟩) (cut := []) (keep := keep) (T := tab (List Int) n) (dr := dr) Tryd.func115 (by kernel_rfl) (by kernel_rfl) te_ok (by kernel_rfl) (by kernel_rfl) hl (show Cov _ (env n) (tab (List Int) n) body from ⟨trivial, ⟨trivial, ⟨trivial, ⟨⟨trivial, lp4_ok n hl⟩, ⟨trivial, trivial⟩⟩⟩⟩⟩) dr_ok (fun a => ⟨rfl, rfl⟩) (run n)
theorem all_ok (n : Nat) : EntOK Tryd.prog gl (ent n) := ok n trivial
end W_field_room_shift
namespace W_field_room_number
noncomputable def body : Code := Tryd.f114.body.getD .skip
def keep : List (Nat × List Nat) := [(3, [2, 3, 5, 6])]
noncomputable def used (_n : Nat) : List Ent := []
noncomputable def env (n : Nat) : Env := envOf te gl (used n) ⟨2, 25⟩ [] keep
def F3 (c : Int × Int × (List Int) × Int × (List Int)) (s : Int × Int) : Fr := [(2, .bx [.pv (.int .i64 c.1), .pv (.int .i64 c.2.1), .ls (.ints .i64 c.2.2.1), .pv (.int .i64 c.2.2.2.1)]), (3, .ba (.ints .i64 c.2.2.2.2)), (5, .pv (.int .i64 s.1)), (6, .pv (.int .i64 s.2))]
def d3 : Fr → Option ((Int × Int × (List Int) × Int × (List Int)) × (Int × Int))
  | [(2, .bx [.pv (.int .i64 r2_0), .pv (.int .i64 r2_1), .ls (.ints .i64 r2_2), .pv (.int .i64 r2_3)]), (3, .ba (.ints .i64 a3)), (5, .pv (.int .i64 n_5)), (6, .pv (.int .i64 i6))] => some ((r2_0, r2_1, r2_2, r2_3, a3), (n_5, i6))
  | _ => none
def st3 {ρ : Type} (n : Nat) (c : Int × Int × (List Int) × Int × (List Int)) (Ko : Exit → Fr → Option ρ) (s : Int × Int) (nx : (Int × Int) → Option ρ) : Option ρ :=
  Gm.field_room_number_s3 n c.1 c.2.1 c.2.2.1 c.2.2.2.1 c.2.2.2.2 s.1 s.2 (fun a0 a1 => nx (a0, a1)) (fun (y0 : Int) => Ko (.exit 0) [(5, .pv (.int .i64 y0))])
noncomputable def tab (ρ : Type) (n : Nat) : Tab ρ := { live := [(0, [2, 3]), (1, [2, 3, 5]), (2, [2, 3, 5, 6]), (3, [2, 3, 5, 6, 12]), (4, [2, 3, 5, 6]), (5, [2, 3, 5, 6]), (6, [4])], xl := [(0, [5]), (1, [2, 3, 5, 6])], rl := [4], fz := [], jp := [], lp := [(3, fun A Ko => bnd (d3 A) fun p => iterM (st3 n p.1 Ko) n p.2)] }
noncomputable def b3 : Code := (cL (cB (c2 (c1 (c2 (c2 body))))))
theorem d3_ok (A : Fr) (c : Int × Int × (List Int) × Int × (List Int)) (s : Int × Int) (h : d3 A = some (c, s)) : A = F3 c s := by
  unfold d3 at h
  split at h
  · cases h; rfl
  · cases h
theorem step3 (ρ : Type) (n : Nat) (c : Int × Int × (List Int) × Int × (List Int)) (Ko : Exit → Fr → Option ρ) (s : Int × Int) (nx : (Int × Int × (List Int) × Int × (List Int)) → (Int × Int) → Option ρ) :
    AEO (env n) (answers ρ (used n) (used n)) (tab ρ n) b3 (F3 c s) (thenO (fun A => bnd (d3 (restr (keepOf (env n) b3) A)) fun p => nx p.1 p.2) Ko) = st3 n c Ko s (nx c) := by kernel_rfl
theorem lp3_ok {ρ : Type} (n : Nat) (hl : EntsOK Tryd.prog gl (used n)) : ∀ (A : Fr) (Ko : Exit → Fr → Option ρ) (r : ρ) (K : Exit → Fr → Prop), (bnd (d3 (restr (keepOf (env n) b3) A)) fun p => iterM (st3 n p.1 Ko) n p.2) = some r → (∀ e A, Ko e A = some r → K e A) → Gx.Sem Tryd.prog (env n) (.loop b3) A K :=
  fun A Ko r K h hk => loop_cod (P := Tryd.prog) (E := env n) (T := tab ρ n) (fun _ _ _ h => answers_ok h) F3 d3 (st3 n) d3_ok (show Cov _ (env n) (tab ρ n) b3 from ⟨⟨trivial, ⟨trivial, trivial⟩⟩, ⟨trivial, trivial⟩⟩) (fun c Ko s nx => step3 ρ n c Ko s nx) n A Ko r K h hk
def enc (a : Int × Int × (List Int) × Int × (List Int)) : List AV := [.ag [.pv (.int .i64 a.1), .pv (.int .i64 a.2.1), .ls (.ints .i64 a.2.2.1), .pv (.int .i64 a.2.2.2.1)], .aa (.ints .i64 a.2.2.2.2)]
def dec : List AV → Option (Int × Int × (List Int) × Int × (List Int))
  | [.ag [.pv (.int .i64 r0_0), .pv (.int .i64 r0_1), .ls (.ints .i64 r0_2), .pv (.int .i64 r0_3)], .aa (.ints .i64 a1)] => some (r0_0, r0_1, r0_2, r0_3, a1)
  | _ => none
def emb (b : Int) : AV × List AV := (.pv (.int .i64 b), [])
def dr : AV → List AV → Option (Int)
  | .pv (.int .i64 r0), [] => some r0
  | _, _ => none
theorem dec_ok (vs : List AV) (a : Int × Int × (List Int) × Int × (List Int)) (h : dec vs = some a) : vs = enc a := by
  unfold dec at h
  split at h
  · cases h; rfl
  · cases h
theorem dr_ok (v : AV) (o : List AV) (b : Int) (h : dr v o = some b) : emb b = (v, o) := by
  unfold dr at h
  split at h
  · cases h; rfl
  · cases h
noncomputable def ent (n : Nat) : Ent := { f := 114, ms := [.lend, .lend], α := Int × Int × (List Int) × Int × (List Int), β := Int, dec := dec, enc := enc, emb := emb, m := fun a => Gm.field_room_number n a.1 a.2.1 a.2.2.1 a.2.2.2.1 a.2.2.2.2, hdec := dec_ok }
theorem run (n : Nat) (a : Int × Int × (List Int) × Int × (List Int)) : AEO (env n) (answers (Int) (used n) (used n)) (tab (Int) n) body (frameOf (enc a) 0) (bodyO (env n) Tryd.f114.results.toList (enc a) dr) = (ent n).m a := by kernel_rfl
theorem ok (n : Nat) (hl : EntsOK Tryd.prog gl (used n)) : EntOK Tryd.prog gl (ent n) :=
  fnO_sound (P := Tryd.prog) (e := ent n) (fn := Tryd.f114) (body := body) (l := used n) (te := te) (gl := gl) (n := ⟨2, 25⟩) (cut := []) (keep := keep) (T := tab (Int) n) (dr := dr) Tryd.func114 (by kernel_rfl) (by kernel_rfl) te_ok (by kernel_rfl) (by kernel_rfl) hl (show Cov _ (env n) (tab (Int) n) body from ⟨trivial, ⟨trivial, ⟨⟨trivial, lp3_ok n hl⟩, ⟨trivial, trivial⟩⟩⟩⟩) dr_ok (fun a => ⟨rfl, rfl⟩) (run n)
theorem all_ok (n : Nat) : EntOK Tryd.prog gl (ent n) := ok n trivial
end W_field_room_number
namespace W_field_room_mul
noncomputable def body : Code := Tryd.f83.body.getD .skip
def keep : List (Nat × List Nat) := [(4, [3, 7, 8, 9, 24, 25]), (7, [3, 7, 8, 9, 10, 24, 25, 30, 31])]
noncomputable def used (n : Nat) : List Ent := [W_field_digits.ent n, W_field_room_shift.ent n, W_field_room_number.ent n]
noncomputable def env (n : Nat) : Env := envOf te gl (used n) ⟨3, 59⟩ [] keep
def Fg1 (c : Int × Int × (List Int) × Int × Int × Int) : Fr := [(3, .bx [.pv (.int .i64 c.1), .pv (.int .i64 c.2.1), .ls (.ints .i64 c.2.2.1), .pv (.int .i64 c.2.2.2.1)]), (1, .pv (.int .i64 c.2.2.2.2.1)), (2, .pv (.int .i64 c.2.2.2.2.2))]
def dg1 : Fr → Option (Int × Int × (List Int) × Int × Int × Int)
  | [(3, .bx [.pv (.int .i64 r3_0), .pv (.int .i64 r3_1), .ls (.ints .i64 r3_2), .pv (.int .i64 r3_3)]), (1, .pv (.int .i64 a1)), (2, .pv (.int .i64 b2))] => some (r3_0, r3_1, r3_2, r3_3, a1, b2)
  | _ => none
def gg1 {ρ : Type} (n : Nat) (c : Int × Int × (List Int) × Int × Int × Int) (Ko : Fr → Option ρ) : Option ρ :=
  Gm.field_room_mul_g1 n c.1 c.2.1 c.2.2.1 c.2.2.2.1 c.2.2.2.2.1 c.2.2.2.2.2 (fun (y0 : List Int) (y1 : List Int) => Ko [(3, .bx [.pv (.int .i64 c.1), .pv (.int .i64 c.2.1), .ls (.ints .i64 c.2.2.1), .pv (.int .i64 c.2.2.2.1)]), (7, .ba (.ints .i64 y0)), (8, .ba (.ints .i64 y1))])
noncomputable def og1 : Array Oper := match (c1 (c2 body)) with | .region _ ops _ => ops | _ => #[]
theorem dg1_ok (A : Fr) (c : Int × Int × (List Int) × Int × Int × Int) (h : dg1 A = some c) : A = Fg1 c := by
  unfold dg1 at h
  split at h
  · cases h; rfl
  · cases h
def F7 (c : Int × Int × (List Int) × Int × (List Int) × (List Int) × Int × Int × Int × Int) (s : (List Int) × Int) : Fr := [(3, .bx [.pv (.int .i64 c.1), .pv (.int .i64 c.2.1), .ls (.ints .i64 c.2.2.1), .pv (.int .i64 c.2.2.2.1)]), (7, .ba (.ints .i64 c.2.2.2.2.1)), (8, .ba (.ints .i64 c.2.2.2.2.2.1)), (9, .ba (.ints .i64 s.1)), (10, .pv (.int .i64 c.2.2.2.2.2.2.1)), (24, .pv (.int .i64 c.2.2.2.2.2.2.2.1)), (25, .pv (.int .i64 c.2.2.2.2.2.2.2.2.1)), (30, .pv (.int .i64 c.2.2.2.2.2.2.2.2.2)), (31, .pv (.int .i64 s.2))]
def d7 : Fr → Option ((Int × Int × (List Int) × Int × (List Int) × (List Int) × Int × Int × Int × Int) × ((List Int) × Int))
  | [(3, .bx [.pv (.int .i64 r3_0), .pv (.int .i64 r3_1), .ls (.ints .i64 r3_2), .pv (.int .i64 r3_3)]), (7, .ba (.ints .i64 x7)), (8, .ba (.ints .i64 y8)), (9, .ba (.ints .i64 out9)), (10, .pv (.int .i64 i10)), (24, .pv (.int .i64 t24)), (25, .pv (.int .i64 t25)), (30, .pv (.int .i64 t30)), (31, .pv (.int .i64 t31))] => some ((r3_0, r3_1, r3_2, r3_3, x7, y8, i10, t24, t25, t30), (out9, t31))
  | _ => none
def st7 {ρ : Type} (n : Nat) (c : Int × Int × (List Int) × Int × (List Int) × (List Int) × Int × Int × Int × Int) (Ko : Exit → Fr → Option ρ) (s : (List Int) × Int) (nx : ((List Int) × Int) → Option ρ) : Option ρ :=
  Gm.field_room_mul_s7 n c.1 c.2.1 c.2.2.1 c.2.2.2.1 c.2.2.2.2.1 c.2.2.2.2.2.1 c.2.2.2.2.2.2.1 c.2.2.2.2.2.2.2.1 c.2.2.2.2.2.2.2.2.1 c.2.2.2.2.2.2.2.2.2 s.1 s.2 (fun a0 a1 => nx (a0, a1)) (fun (y0 : List Int) => Ko (.exit 2) [(3, .bx [.pv (.int .i64 c.1), .pv (.int .i64 c.2.1), .ls (.ints .i64 c.2.2.1), .pv (.int .i64 c.2.2.2.1)]), (7, .ba (.ints .i64 c.2.2.2.2.1)), (8, .ba (.ints .i64 c.2.2.2.2.2.1)), (9, .ba (.ints .i64 y0)), (24, .pv (.int .i64 c.2.2.2.2.2.2.2.1)), (25, .pv (.int .i64 c.2.2.2.2.2.2.2.2.1))])
def F4 (c : Int × Int × (List Int) × Int × (List Int) × Int) (s : (List Int) × (List Int) × Int) : Fr := [(3, .bx [.pv (.int .i64 c.1), .pv (.int .i64 c.2.1), .ls (.ints .i64 c.2.2.1), .pv (.int .i64 c.2.2.2.1)]), (7, .ba (.ints .i64 s.1)), (8, .ba (.ints .i64 c.2.2.2.2.1)), (9, .ba (.ints .i64 s.2.1)), (24, .pv (.int .i64 c.2.2.2.2.2)), (25, .pv (.int .i64 s.2.2))]
def d4 : Fr → Option ((Int × Int × (List Int) × Int × (List Int) × Int) × ((List Int) × (List Int) × Int))
  | [(3, .bx [.pv (.int .i64 r3_0), .pv (.int .i64 r3_1), .ls (.ints .i64 r3_2), .pv (.int .i64 r3_3)]), (7, .ba (.ints .i64 x7)), (8, .ba (.ints .i64 y8)), (9, .ba (.ints .i64 out9)), (24, .pv (.int .i64 t24)), (25, .pv (.int .i64 t25))] => some ((r3_0, r3_1, r3_2, r3_3, y8, t24), (x7, out9, t25))
  | _ => none
def st4 {ρ : Type} (n : Nat) (c : Int × Int × (List Int) × Int × (List Int) × Int) (Ko : Exit → Fr → Option ρ) (s : (List Int) × (List Int) × Int) (nx : ((List Int) × (List Int) × Int) → Option ρ) : Option ρ :=
  Gm.field_room_mul_s4 n c.1 c.2.1 c.2.2.1 c.2.2.2.1 c.2.2.2.2.1 c.2.2.2.2.2 s.1 s.2.1 s.2.2 (fun a0 a1 a2 => nx (a0, a1, a2)) (fun (y0 : List Int) => Ko (.exit 0) [(3, .bx [.pv (.int .i64 c.1), .pv (.int .i64 c.2.1), .ls (.ints .i64 c.2.2.1), .pv (.int .i64 c.2.2.2.1)]), (9, .ba (.ints .i64 y0))])
noncomputable def tab (ρ : Type) (n : Nat) : Tab ρ := { live := [(0, [1, 2, 3]), (1, [3, 7, 8]), (2, [3, 7, 8, 9]), (3, [3, 7, 8, 9, 24, 25]), (4, [3, 7, 8, 9, 24, 25, 26]), (5, [3, 7, 8, 9, 10, 24, 25]), (6, [3, 7, 8, 9, 10, 24, 25, 30, 31]), (7, [3, 7, 8, 9, 10, 24, 25, 30, 31, 32]), (8, [3, 7, 8, 9, 10, 11, 24, 25, 30, 31]), (9, [3, 7, 8, 9, 10, 24, 25, 30, 31]), (10, [3, 7, 8, 9, 10, 24, 25, 30, 31]), (11, [3, 7, 8, 9, 24, 25]), (12, [3, 7, 8, 9, 24, 25]), (13, [6])], xl := [(0, [3, 9]), (1, [3, 7, 8, 9, 24, 25]), (2, [3, 7, 8, 9, 24, 25]), (3, [3, 7, 8, 9, 10, 24, 25, 30, 31])], rl := [6], fz := [], jp := [], lp := [(7, fun A Ko => bnd (d7 A) fun p => iterM (st7 n p.1 Ko) n p.2), (4, fun A Ko => bnd (d4 A) fun p => iterM (st4 n p.1 Ko) n p.2)], rg := [(1, fun A Ko => bnd (dg1 A) fun c => gg1 n c Ko)] }
theorem rg1_ok {ρ : Type} (n : Nat) (hl : EntsOK Tryd.prog gl (used n)) : ∀ (A : Fr) (Ko : Fr → Option ρ) (r : ρ) (K : Exit → Fr → Prop), (bnd (dg1 A) fun c => gg1 n c Ko) = some r → (∀ A, Ko A = some r → K .normal A) → Gx.Sem Tryd.prog (env n) (.region 1 og1 true) A K :=
  region_cod (P := Tryd.prog) (E := env n) (orc := answers ρ (used n) (used n)) (fun _ _ _ h => answers_ok h) Fg1 dg1 (gg1 n) [3, 7, 8] [2, 4, 7, 9, 10, 11] [[0, 1, 2, 3, 4, 5, 6, 7, 8, 9, 10, 11, 12, 13], [0, 1, 2, 3, 4, 5, 6, 7, 8, 9, 11, 10, 12, 13], [0, 1, 2, 3, 4, 5, 6, 7, 8, 10, 9, 11, 12, 13], [0, 1, 2, 3, 4, 5, 6, 7, 8, 10, 11, 9, 12, 13], [0, 1, 2, 3, 4, 5, 6, 7, 8, 11, 9, 10, 12, 13], [0, 1, 2, 3, 4, 5, 6, 7, 8, 11, 10, 9, 12, 13], [0, 1, 2, 3, 4, 5, 6, 8, 10, 7, 9, 11, 12, 13], [0, 1, 2, 3, 4, 5, 6, 8, 10, 7, 11, 9, 12, 13], [0, 1, 2, 3, 4, 5, 6, 8, 10, 11, 7, 9, 12, 13], [0, 1, 2, 3, 4, 5, 6, 8, 11, 7, 9, 10, 12, 13], [0, 1, 2, 3, 4, 5, 6, 8, 11, 7, 10, 9, 12, 13], [0, 1, 2, 3, 4, 5, 6, 8, 11, 10, 7, 9, 12, 13], [0, 1, 2, 3, 5, 6, 7, 4, 8, 9, 10, 11, 12, 13], [0, 1, 2, 3, 5, 6, 7, 4, 8, 9, 11, 10, 12, 13], [0, 1, 2, 3, 5, 6, 7, 4, 8, 10, 9, 11, 12, 13], [0, 1, 2, 3, 5, 6, 7, 4, 8, 10, 11, 9, 12, 13], [0, 1, 2, 3, 5, 6, 7, 4, 8, 11, 9, 10, 12, 13], [0, 1, 2, 3, 5, 6, 7, 4, 8, 11, 10, 9, 12, 13], [0, 1, 2, 3, 5, 6, 7, 8, 10, 4, 9, 11, 12, 13], [0, 1, 2, 3, 5, 6, 7, 8, 10, 4, 11, 9, 12, 13], [0, 1, 2, 3, 5, 6, 7, 8, 10, 11, 4, 9, 12, 13], [0, 1, 2, 3, 5, 6, 7, 8, 11, 4, 9, 10, 12, 13], [0, 1, 2, 3, 5, 6, 7, 8, 11, 4, 10, 9, 12, 13], [0, 1, 2, 3, 5, 6, 7, 8, 11, 10, 4, 9, 12, 13], [0, 1, 2, 3, 5, 6, 8, 10, 4, 7, 9, 11, 12, 13], [0, 1, 2, 3, 5, 6, 8, 10, 4, 7, 11, 9, 12, 13], [0, 1, 2, 3, 5, 6, 8, 10, 4, 11, 7, 9, 12, 13], [0, 1, 2, 3, 5, 6, 8, 10, 7, 4, 9, 11, 12, 13], [0, 1, 2, 3, 5, 6, 8, 10, 7, 4, 11, 9, 12, 13], [0, 1, 2, 3, 5, 6, 8, 10, 7, 11, 4, 9, 12, 13], [0, 1, 2, 3, 5, 6, 8, 10, 11, 4, 7, 9, 12, 13], [0, 1, 2, 3, 5, 6, 8, 10, 11, 7, 4, 9, 12, 13], [0, 1, 2, 3, 5, 6, 8, 11, 4, 7, 9, 10, 12, 13], [0, 1, 2, 3, 5, 6, 8, 11, 4, 7, 10, 9, 12, 13], [0, 1, 2, 3, 5, 6, 8, 11, 4, 10, 7, 9, 12, 13], [0, 1, 2, 3, 5, 6, 8, 11, 7, 4, 9, 10, 12, 13], [0, 1, 2, 3, 5, 6, 8, 11, 7, 4, 10, 9, 12, 13], [0, 1, 2, 3, 5, 6, 8, 11, 7, 10, 4, 9, 12, 13], [0, 1, 2, 3, 5, 6, 8, 11, 10, 4, 7, 9, 12, 13], [0, 1, 2, 3, 5, 6, 8, 11, 10, 7, 4, 9, 12, 13], [0, 1, 3, 5, 6, 7, 2, 4, 8, 9, 10, 11, 12, 13], [0, 1, 3, 5, 6, 7, 2, 4, 8, 9, 11, 10, 12, 13], [0, 1, 3, 5, 6, 7, 2, 4, 8, 10, 9, 11, 12, 13], [0, 1, 3, 5, 6, 7, 2, 4, 8, 10, 11, 9, 12, 13], [0, 1, 3, 5, 6, 7, 2, 4, 8, 11, 9, 10, 12, 13], [0, 1, 3, 5, 6, 7, 2, 4, 8, 11, 10, 9, 12, 13], [0, 1, 3, 5, 6, 7, 2, 8, 10, 4, 9, 11, 12, 13], [0, 1, 3, 5, 6, 7, 2, 8, 10, 4, 11, 9, 12, 13], [0, 1, 3, 5, 6, 7, 2, 8, 10, 11, 4, 9, 12, 13], [0, 1, 3, 5, 6, 7, 2, 8, 11, 4, 9, 10, 12, 13], [0, 1, 3, 5, 6, 7, 2, 8, 11, 4, 10, 9, 12, 13], [0, 1, 3, 5, 6, 7, 2, 8, 11, 10, 4, 9, 12, 13], [0, 1, 3, 5, 6, 7, 8, 10, 2, 4, 9, 11, 12, 13], [0, 1, 3, 5, 6, 7, 8, 10, 2, 4, 11, 9, 12, 13], [0, 1, 3, 5, 6, 7, 8, 10, 2, 11, 4, 9, 12, 13], [0, 1, 3, 5, 6, 7, 8, 10, 11, 2, 4, 9, 12, 13], [0, 1, 3, 5, 6, 7, 8, 11, 2, 4, 9, 10, 12, 13], [0, 1, 3, 5, 6, 7, 8, 11, 2, 4, 10, 9, 12, 13], [0, 1, 3, 5, 6, 7, 8, 11, 2, 10, 4, 9, 12, 13], [0, 1, 3, 5, 6, 7, 8, 11, 10, 2, 4, 9, 12, 13], [0, 1, 3, 5, 6, 8, 10, 2, 4, 7, 9, 11, 12, 13], [0, 1, 3, 5, 6, 8, 10, 2, 4, 7, 11, 9, 12, 13], [0, 1, 3, 5, 6, 8, 10, 2, 4, 11, 7, 9, 12, 13], [0, 1, 3, 5, 6, 8, 10, 2, 7, 4, 9, 11, 12, 13], [0, 1, 3, 5, 6, 8, 10, 2, 7, 4, 11, 9, 12, 13], [0, 1, 3, 5, 6, 8, 10, 2, 7, 11, 4, 9, 12, 13], [0, 1, 3, 5, 6, 8, 10, 2, 11, 4, 7, 9, 12, 13], [0, 1, 3, 5, 6, 8, 10, 2, 11, 7, 4, 9, 12, 13], [0, 1, 3, 5, 6, 8, 10, 7, 2, 4, 9, 11, 12, 13], [0, 1, 3, 5, 6, 8, 10, 7, 2, 4, 11, 9, 12, 13], [0, 1, 3, 5, 6, 8, 10, 7, 2, 11, 4, 9, 12, 13], [0, 1, 3, 5, 6, 8, 10, 7, 11, 2, 4, 9, 12, 13], [0, 1, 3, 5, 6, 8, 10, 11, 2, 4, 7, 9, 12, 13], [0, 1, 3, 5, 6, 8, 10, 11, 2, 7, 4, 9, 12, 13], [0, 1, 3, 5, 6, 8, 10, 11, 7, 2, 4, 9, 12, 13], [0, 1, 3, 5, 6, 8, 11, 2, 4, 7, 9, 10, 12, 13], [0, 1, 3, 5, 6, 8, 11, 2, 4, 7, 10, 9, 12, 13], [0, 1, 3, 5, 6, 8, 11, 2, 4, 10, 7, 9, 12, 13], [0, 1, 3, 5, 6, 8, 11, 2, 7, 4, 9, 10, 12, 13], [0, 1, 3, 5, 6, 8, 11, 2, 7, 4, 10, 9, 12, 13], [0, 1, 3, 5, 6, 8, 11, 2, 7, 10, 4, 9, 12, 13], [0, 1, 3, 5, 6, 8, 11, 2, 10, 4, 7, 9, 12, 13], [0, 1, 3, 5, 6, 8, 11, 2, 10, 7, 4, 9, 12, 13], [0, 1, 3, 5, 6, 8, 11, 7, 2, 4, 9, 10, 12, 13], [0, 1, 3, 5, 6, 8, 11, 7, 2, 4, 10, 9, 12, 13], [0, 1, 3, 5, 6, 8, 11, 7, 2, 10, 4, 9, 12, 13], [0, 1, 3, 5, 6, 8, 11, 7, 10, 2, 4, 9, 12, 13], [0, 1, 3, 5, 6, 8, 11, 10, 2, 4, 7, 9, 12, 13], [0, 1, 3, 5, 6, 8, 11, 10, 2, 7, 4, 9, 12, 13], [0, 1, 3, 5, 6, 8, 11, 10, 7, 2, 4, 9, 12, 13]] (by kernel_rfl) ⟨by kernel_rfl, by kernel_rfl⟩ (by kernel_rfl) dg1_ok (fun c Ko => by kernel_rfl)
noncomputable def b7 : Code := (cL (cB (c2 (c1 (c2 (cB (c1 (c2 (c2 (cL (cB (c2 (c1 (c2 (c2 (c2 body))))))))))))))))
theorem d7_ok (A : Fr) (c : Int × Int × (List Int) × Int × (List Int) × (List Int) × Int × Int × Int × Int) (s : (List Int) × Int) (h : d7 A = some (c, s)) : A = F7 c s := by
  unfold d7 at h
  split at h
  · cases h; rfl
  · cases h
theorem step7 (ρ : Type) (n : Nat) (c : Int × Int × (List Int) × Int × (List Int) × (List Int) × Int × Int × Int × Int) (Ko : Exit → Fr → Option ρ) (s : (List Int) × Int) (nx : (Int × Int × (List Int) × Int × (List Int) × (List Int) × Int × Int × Int × Int) → ((List Int) × Int) → Option ρ) :
    AEO (env n) (answers ρ (used n) (used n)) (tab ρ n) b7 (F7 c s) (thenO (fun A => bnd (d7 (restr (keepOf (env n) b7) A)) fun p => nx p.1 p.2) Ko) = st7 n c Ko s (nx c) := by kernel_rfl
theorem lp7_ok {ρ : Type} (n : Nat) (hl : EntsOK Tryd.prog gl (used n)) : ∀ (A : Fr) (Ko : Exit → Fr → Option ρ) (r : ρ) (K : Exit → Fr → Prop), (bnd (d7 (restr (keepOf (env n) b7) A)) fun p => iterM (st7 n p.1 Ko) n p.2) = some r → (∀ e A, Ko e A = some r → K e A) → Gx.Sem Tryd.prog (env n) (.loop b7) A K :=
  fun A Ko r K h hk => loop_cod (P := Tryd.prog) (E := env n) (T := tab ρ n) (fun _ _ _ h => answers_ok h) F7 d7 (st7 n) d7_ok (show Cov _ (env n) (tab ρ n) b7 from ⟨trivial, ⟨⟨trivial, trivial⟩, ⟨⟨trivial, trivial⟩, trivial⟩⟩⟩) (fun c Ko s nx => step7 ρ n c Ko s nx) n A Ko r K h hk
noncomputable def b4 : Code := (cL (cB (c2 (c1 (c2 (c2 (c2 body)))))))
theorem d4_ok (A : Fr) (c : Int × Int × (List Int) × Int × (List Int) × Int) (s : (List Int) × (List Int) × Int) (h : d4 A = some (c, s)) : A = F4 c s := by
  unfold d4 at h
  split at h
  · cases h; rfl
  · cases h
theorem step4 (ρ : Type) (n : Nat) (c : Int × Int × (List Int) × Int × (List Int) × Int) (Ko : Exit → Fr → Option ρ) (s : (List Int) × (List Int) × Int) (nx : (Int × Int × (List Int) × Int × (List Int) × Int) → ((List Int) × (List Int) × Int) → Option ρ) :
    AEO (env n) (answers ρ (used n) (used n)) (tab ρ n) b4 (F4 c s) (thenO (fun A => bnd (d4 (restr (keepOf (env n) b4) A)) fun p => nx p.1 p.2) Ko) = st4 n c Ko s (nx c) := by kernel_rfl
theorem lp4_ok {ρ : Type} (n : Nat) (hl : EntsOK Tryd.prog gl (used n)) : ∀ (A : Fr) (Ko : Exit → Fr → Option ρ) (r : ρ) (K : Exit → Fr → Prop), (bnd (d4 (restr (keepOf (env n) b4) A)) fun p => iterM (st4 n p.1 Ko) n p.2) = some r → (∀ e A, Ko e A = some r → K e A) → Gx.Sem Tryd.prog (env n) (.loop b4) A K :=
  fun A Ko r K h hk => loop_cod (P := Tryd.prog) (E := env n) (T := tab ρ n) (fun _ _ _ h => answers_ok h) F4 d4 (st4 n) d4_ok (show Cov _ (env n) (tab ρ n) b4 from ⟨trivial, ⟨⟨trivial, trivial⟩, ⟨⟨trivial, ⟨⟨trivial, lp7_ok n hl⟩, trivial⟩⟩, trivial⟩⟩⟩) (fun c Ko s nx => step4 ρ n c Ko s nx) n A Ko r K h hk
def enc (a : Int × Int × (List Int) × Int × Int × Int) : List AV := [.ag [.pv (.int .i64 a.1), .pv (.int .i64 a.2.1), .ls (.ints .i64 a.2.2.1), .pv (.int .i64 a.2.2.2.1)], .pv (.int .i64 a.2.2.2.2.1), .pv (.int .i64 a.2.2.2.2.2)]
def dec : List AV → Option (Int × Int × (List Int) × Int × Int × Int)
  | [.ag [.pv (.int .i64 r0_0), .pv (.int .i64 r0_1), .ls (.ints .i64 r0_2), .pv (.int .i64 r0_3)], .pv (.int .i64 a1), .pv (.int .i64 b2)] => some (r0_0, r0_1, r0_2, r0_3, a1, b2)
  | _ => none
def emb (b : Int) : AV × List AV := (.pv (.int .i64 b), [])
def dr : AV → List AV → Option (Int)
  | .pv (.int .i64 r0), [] => some r0
  | _, _ => none
theorem dec_ok (vs : List AV) (a : Int × Int × (List Int) × Int × Int × Int) (h : dec vs = some a) : vs = enc a := by
  unfold dec at h
  split at h
  · cases h; rfl
  · cases h
theorem dr_ok (v : AV) (o : List AV) (b : Int) (h : dr v o = some b) : emb b = (v, o) := by
  unfold dr at h
  split at h
  · cases h; rfl
  · cases h
noncomputable def ent (n : Nat) : Ent := { f := 83, ms := [.lend, .lend, .lend], α := Int × Int × (List Int) × Int × Int × Int, β := Int, dec := dec, enc := enc, emb := emb, m := fun a => Gm.field_room_mul n a.1 a.2.1 a.2.2.1 a.2.2.2.1 a.2.2.2.2.1 a.2.2.2.2.2, hdec := dec_ok }
theorem run (n : Nat) (a : Int × Int × (List Int) × Int × Int × Int) : AEO (env n) (answers (Int) (used n) (used n)) (tab (Int) n) body (frameOf (enc a) 0) (bodyO (env n) Tryd.f83.results.toList (enc a) dr) = (ent n).m a := by kernel_rfl
theorem ok (n : Nat) (hl : EntsOK Tryd.prog gl (used n)) : EntOK Tryd.prog gl (ent n) :=
  fnO_sound (P := Tryd.prog) (e := ent n) (fn := Tryd.f83) (body := body) (l := used n) (te := te) (gl := gl) (n := ⟨3, 59⟩) (cut := []) (keep := keep) (T := tab (Int) n) (dr := dr) Tryd.func83 (by kernel_rfl) (by kernel_rfl) te_ok (by kernel_rfl) (by kernel_rfl) hl (show Cov _ (env n) (tab (Int) n) body from ⟨trivial, ⟨rg1_ok n hl, ⟨trivial, ⟨⟨trivial, lp4_ok n hl⟩, ⟨trivial, trivial⟩⟩⟩⟩⟩) dr_ok (fun a => ⟨rfl, rfl⟩) (run n)
theorem all_ok (n : Nat) : EntOK Tryd.prog gl (ent n) := ok n ⟨W_field_digits.all_ok n, W_field_room_shift.all_ok n, W_field_room_number.all_ok n, trivial⟩
end W_field_room_mul
namespace W_field_room_root
noncomputable def body : Code := Tryd.f79.body.getD .skip
def keep : List (Nat × List Nat) := [(3, [1, 3]), (5, [1, 3, 4, 5])]
noncomputable def used (n : Nat) : List Ent := [W_field_room_mul.ent n]
noncomputable def env (n : Nat) : Env := envOf te gl (used n) ⟨1, 27⟩ [] keep
def F5 (c : Int × Int × (List Int) × Int × Int) (s : Int × Int) : Fr := [(1, .bx [.pv (.int .i64 c.1), .pv (.int .i64 c.2.1), .ls (.ints .i64 c.2.2.1), .pv (.int .i64 c.2.2.2.1)]), (3, .pv (.int .i64 c.2.2.2.2)), (4, .pv (.int .i64 s.1)), (5, .pv (.int .i64 s.2))]
def d5 : Fr → Option ((Int × Int × (List Int) × Int × Int) × (Int × Int))
  | [(1, .bx [.pv (.int .i64 r1_0), .pv (.int .i64 r1_1), .ls (.ints .i64 r1_2), .pv (.int .i64 r1_3)]), (3, .pv (.int .i64 a3)), (4, .pv (.int .i64 many4)), (5, .pv (.int .i64 b5))] => some ((r1_0, r1_1, r1_2, r1_3, a3), (many4, b5))
  | _ => none
def st5 {ρ : Type} (n : Nat) (c : Int × Int × (List Int) × Int × Int) (Ko : Exit → Fr → Option ρ) (s : Int × Int) (nx : (Int × Int) → Option ρ) : Option ρ :=
  Gm.field_room_root_s5 n c.1 c.2.1 c.2.2.1 c.2.2.2.1 c.2.2.2.2 s.1 s.2 (fun a0 a1 => nx (a0, a1)) (fun (y0 : Int) => Ko (.exit 2) [(1, .bx [.pv (.int .i64 c.1), .pv (.int .i64 c.2.1), .ls (.ints .i64 c.2.2.1), .pv (.int .i64 c.2.2.2.1)]), (3, .pv (.int .i64 c.2.2.2.2)), (4, .pv (.int .i64 y0))])
def F3 (c : Int × Int × (List Int) × Int) (s : Int) : Fr := [(1, .bx [.pv (.int .i64 c.1), .pv (.int .i64 c.2.1), .ls (.ints .i64 c.2.2.1), .pv (.int .i64 c.2.2.2)]), (3, .pv (.int .i64 s))]
def d3 : Fr → Option ((Int × Int × (List Int) × Int) × (Int))
  | [(1, .bx [.pv (.int .i64 r1_0), .pv (.int .i64 r1_1), .ls (.ints .i64 r1_2), .pv (.int .i64 r1_3)]), (3, .pv (.int .i64 a3))] => some ((r1_0, r1_1, r1_2, r1_3), a3)
  | _ => none
def st3 {ρ : Type} (n : Nat) (c : Int × Int × (List Int) × Int) (Ko : Exit → Fr → Option ρ) (s : Int) (nx : Int → Option ρ) : Option ρ :=
  Gm.field_room_root_s3 n c.1 c.2.1 c.2.2.1 c.2.2.2 s nx (fun (y0 : Int) => Ko .ret [(2, .pv (.int .i64 y0))])
noncomputable def tab (ρ : Type) (n : Nat) : Tab ρ := { live := [(0, [1]), (1, [1, 3]), (2, [1, 3]), (3, [1, 3, 4]), (4, [1, 3, 4, 5]), (5, [1, 3, 4, 5, 14]), (6, [1, 3, 4, 5]), (7, [1, 3, 4, 5]), (8, [1, 3, 25]), (9, [2])], xl := [(0, [2]), (1, [1, 3]), (2, [1, 3, 4]), (3, [1, 3, 4, 5])], rl := [2], fz := [], jp := [], lp := [(5, fun A Ko => bnd (d5 A) fun p => iterM (st5 n p.1 Ko) n p.2), (3, fun A Ko => bnd (d3 A) fun p => iterM (st3 n p.1 Ko) n p.2)] }
noncomputable def b5 : Code := (cL (cB (c2 (c1 (c2 (cB (c1 (cL (cB (c2 (c2 body)))))))))))
theorem d5_ok (A : Fr) (c : Int × Int × (List Int) × Int × Int) (s : Int × Int) (h : d5 A = some (c, s)) : A = F5 c s := by
  unfold d5 at h
  split at h
  · cases h; rfl
  · cases h
theorem step5 (ρ : Type) (n : Nat) (c : Int × Int × (List Int) × Int × Int) (Ko : Exit → Fr → Option ρ) (s : Int × Int) (nx : (Int × Int × (List Int) × Int × Int) → (Int × Int) → Option ρ) :
    AEO (env n) (answers ρ (used n) (used n)) (tab ρ n) b5 (F5 c s) (thenO (fun A => bnd (d5 (restr (keepOf (env n) b5) A)) fun p => nx p.1 p.2) Ko) = st5 n c Ko s (nx c) := by kernel_rfl
theorem lp5_ok {ρ : Type} (n : Nat) (hl : EntsOK Tryd.prog gl (used n)) : ∀ (A : Fr) (Ko : Exit → Fr → Option ρ) (r : ρ) (K : Exit → Fr → Prop), (bnd (d5 (restr (keepOf (env n) b5) A)) fun p => iterM (st5 n p.1 Ko) n p.2) = some r → (∀ e A, Ko e A = some r → K e A) → Gx.Sem Tryd.prog (env n) (.loop b5) A K :=
  fun A Ko r K h hk => loop_cod (P := Tryd.prog) (E := env n) (T := tab ρ n) (fun _ _ _ h => answers_ok h) F5 d5 (st5 n) d5_ok (show Cov _ (env n) (tab ρ n) b5 from ⟨⟨trivial, ⟨trivial, trivial⟩⟩, ⟨trivial, trivial⟩⟩) (fun c Ko s nx => step5 ρ n c Ko s nx) n A Ko r K h hk
noncomputable def b3 : Code := (cL (cB (c2 (c2 body))))
theorem d3_ok (A : Fr) (c : Int × Int × (List Int) × Int) (s : Int) (h : d3 A = some (c, s)) : A = F3 c s := by
  unfold d3 at h
  split at h
  · cases h; rfl
  · cases h
theorem step3 (ρ : Type) (n : Nat) (c : Int × Int × (List Int) × Int) (Ko : Exit → Fr → Option ρ) (s : Int) (nx : (Int × Int × (List Int) × Int) → (Int) → Option ρ) :
    AEO (env n) (answers ρ (used n) (used n)) (tab ρ n) b3 (F3 c s) (thenO (fun A => bnd (d3 (restr (keepOf (env n) b3) A)) fun p => nx p.1 p.2) Ko) = st3 n c Ko s (nx c) := by kernel_rfl
theorem lp3_ok {ρ : Type} (n : Nat) (hl : EntsOK Tryd.prog gl (used n)) : ∀ (A : Fr) (Ko : Exit → Fr → Option ρ) (r : ρ) (K : Exit → Fr → Prop), (bnd (d3 (restr (keepOf (env n) b3) A)) fun p => iterM (st3 n p.1 Ko) n p.2) = some r → (∀ e A, Ko e A = some r → K e A) → Gx.Sem Tryd.prog (env n) (.loop b3) A K :=
  fun A Ko r K h hk => loop_cod (P := Tryd.prog) (E := env n) (T := tab ρ n) (fun _ _ _ h => answers_ok h) F3 d3 (st3 n) d3_ok (show Cov _ (env n) (tab ρ n) b3 from ⟨⟨trivial, ⟨⟨trivial, lp5_ok n hl⟩, ⟨trivial, ⟨⟨trivial, trivial⟩, trivial⟩⟩⟩⟩, trivial⟩) (fun c Ko s nx => step3 ρ n c Ko s nx) n A Ko r K h hk
def enc (a : Int × Int × (List Int) × Int) : List AV := [.ag [.pv (.int .i64 a.1), .pv (.int .i64 a.2.1), .ls (.ints .i64 a.2.2.1), .pv (.int .i64 a.2.2.2)]]
def dec : List AV → Option (Int × Int × (List Int) × Int)
  | [.ag [.pv (.int .i64 r0_0), .pv (.int .i64 r0_1), .ls (.ints .i64 r0_2), .pv (.int .i64 r0_3)]] => some (r0_0, r0_1, r0_2, r0_3)
  | _ => none
def emb (b : Int) : AV × List AV := (.pv (.int .i64 b), [])
def dr : AV → List AV → Option (Int)
  | .pv (.int .i64 r0), [] => some r0
  | _, _ => none
theorem dec_ok (vs : List AV) (a : Int × Int × (List Int) × Int) (h : dec vs = some a) : vs = enc a := by
  unfold dec at h
  split at h
  · cases h; rfl
  · cases h
theorem dr_ok (v : AV) (o : List AV) (b : Int) (h : dr v o = some b) : emb b = (v, o) := by
  unfold dr at h
  split at h
  · cases h; rfl
  · cases h
noncomputable def ent (n : Nat) : Ent := { f := 79, ms := [.lend], α := Int × Int × (List Int) × Int, β := Int, dec := dec, enc := enc, emb := emb, m := fun a => Gm.field_room_root n a.1 a.2.1 a.2.2.1 a.2.2.2, hdec := dec_ok }
theorem run (n : Nat) (a : Int × Int × (List Int) × Int) : AEO (env n) (answers (Int) (used n) (used n)) (tab (Int) n) body (frameOf (enc a) 0) (bodyO (env n) Tryd.f79.results.toList (enc a) dr) = (ent n).m a := by kernel_rfl
theorem ok (n : Nat) (hl : EntsOK Tryd.prog gl (used n)) : EntOK Tryd.prog gl (ent n) :=
  fnO_sound (P := Tryd.prog) (e := ent n) (fn := Tryd.f79) (body := body) (l := used n) (te := te) (gl := gl) (n := ⟨1, 27⟩) (cut := []) (keep := keep) (T := tab (Int) n) (dr := dr) Tryd.func79 (by kernel_rfl) (by kernel_rfl) te_ok (by kernel_rfl) (by kernel_rfl) hl (show Cov _ (env n) (tab (Int) n) body from ⟨trivial, ⟨trivial, lp3_ok n hl⟩⟩) dr_ok (fun a => ⟨rfl, rfl⟩) (run n)
theorem all_ok (n : Nat) : EntOK Tryd.prog gl (ent n) := ok n ⟨W_field_room_mul.all_ok n, trivial⟩
end W_field_room_root
namespace W_field_Root
noncomputable def body : Code := Tryd.f35.body.getD .skip
def keep : List (Nat × List Nat) := []
noncomputable def used (n : Nat) : List Ent := [W_field_open.ent n, W_field_room_root.ent n]
noncomputable def env (n : Nat) : Env := envOf te gl (used n) ⟨1, 16⟩ [] keep
noncomputable def tab (ρ : Type) (_n : Nat) : Tab ρ := { live := [(0, [1]), (1, [4, 5]), (2, [4, 5, 12]), (3, [2, 3]), (4, [2, 3])], xl := [], rl := [2, 3], fz := [], jp := [], lp := [] }
def enc (a : Int × Int × (List Int)) : List AV := [.ag [.pv (.int .i64 a.1), .pv (.int .i64 a.2.1), .sl (.ints .i64 a.2.2)]]
def dec : List AV → Option (Int × Int × (List Int))
  | [.ag [.pv (.int .i64 f0_0), .pv (.int .i64 f0_1), .sl (.ints .i64 f0_2)]] => some (f0_0, f0_1, f0_2)
  | _ => none
def emb (b : Int × Int) : AV × List AV := (.tp [.pv (.int .i64 b.1), .pv (.int .i64 b.2)], [])
def dr : AV → List AV → Option (Int × Int)
  | .tp [.pv (.int .i64 r0), .pv (.int .i64 r1)], [] => some (r0, r1)
  | _, _ => none
theorem dec_ok (vs : List AV) (a : Int × Int × (List Int)) (h : dec vs = some a) : vs = enc a := by
  unfold dec at h
  split at h
  · cases h; rfl
  · cases h
theorem dr_ok (v : AV) (o : List AV) (b : Int × Int) (h : dr v o = some b) : emb b = (v, o) := by
  unfold dr at h
  split at h
  · cases h; rfl
  · cases h
noncomputable def ent (n : Nat) : Ent := { f := 35, ms := [.frz], α := Int × Int × (List Int), β := Int × Int, dec := dec, enc := enc, emb := emb, m := fun a => Gm.field_Root n a.1 a.2.1 a.2.2, hdec := dec_ok }
theorem run (n : Nat) (a : Int × Int × (List Int)) : AEO (env n) (answers (Int × Int) (used n) (used n)) (tab (Int × Int) n) body (frameOf (enc a) 0) (bodyO (env n) Tryd.f35.results.toList (enc a) dr) = (ent n).m a := by kernel_rfl
theorem ok (n : Nat) (hl : EntsOK Tryd.prog gl (used n)) : EntOK Tryd.prog gl (ent n) :=
  fnO_sound (P := Tryd.prog) (e := ent n) (fn := Tryd.f35) (body := body) (l := used n) (te := te) (gl := gl) (n := ⟨1, 16⟩) (cut := []) (keep := keep) (T := tab (Int × Int) n) (dr := dr) Tryd.func35 (by kernel_rfl) (by kernel_rfl) te_ok (by kernel_rfl) (by kernel_rfl) hl (show Cov _ (env n) (tab (Int × Int) n) body from ⟨trivial, ⟨trivial, ⟨⟨trivial, ⟨⟨trivial, trivial⟩, trivial⟩⟩, ⟨trivial, trivial⟩⟩⟩⟩) dr_ok (fun a => ⟨rfl, rfl⟩) (run n)
theorem all_ok (n : Nat) : EntOK Tryd.prog gl (ent n) := ok n ⟨W_field_open.all_ok n, W_field_room_root.all_ok n, trivial⟩
end W_field_Root
namespace W_field_with
noncomputable def body : Code := Tryd.f80.body.getD .skip
def keep : List (Nat × List Nat) := [(5, [4, 6, 19, 20, 21])]
noncomputable def used (n : Nat) : List Ent := [W_field_open.ent n]
noncomputable def env (n : Nat) : Env := envOf te gl (used n) ⟨2, 36⟩ [] keep
def F5 (c : Int × Int × (List Int) × Int × Int × Int × (List Int) × Int × (List Int) × Int) (s : Int) : Fr := [(4, .bx [.pv (.int .i64 c.1), .pv (.int .i64 c.2.1), .ow 3 (.ints .i64 c.2.2.1), .pv (.int .i64 c.2.2.2.1)]), (6, .bx [.pv (.int .i64 c.2.2.2.2.1), .pv (.int .i64 c.2.2.2.2.2.1), .sl (.ints .i64 c.2.2.2.2.2.2.1), .pv (.int .i64 c.2.2.2.2.2.2.2.1)]), (19, .ls (.ints .i64 c.2.2.2.2.2.2.2.2.1)), (20, .pv (.int .i64 c.2.2.2.2.2.2.2.2.2)), (21, .pv (.int .i64 s))]
def d5 : Fr → Option ((Int × Int × (List Int) × Int × Int × Int × (List Int) × Int × (List Int) × Int) × (Int))
  | [(4, .bx [.pv (.int .i64 t4_0), .pv (.int .i64 t4_1), .ow 3 (.ints .i64 t4_2), .pv (.int .i64 t4_3)]), (6, .bx [.pv (.int .i64 r6_0), .pv (.int .i64 r6_1), .sl (.ints .i64 r6_2), .pv (.int .i64 r6_3)]), (19, .ls (.ints .i64 t19)), (20, .pv (.int .i64 t20)), (21, .pv (.int .i64 t21))] => some ((t4_0, t4_1, t4_2, t4_3, r6_0, r6_1, r6_2, r6_3, t19, t20), t21)
  | _ => none
def st5 {ρ : Type} (n : Nat) (c : Int × Int × (List Int) × Int × Int × Int × (List Int) × Int × (List Int) × Int) (Ko : Exit → Fr → Option ρ) (s : Int) (nx : Int → Option ρ) : Option ρ :=
  Gm.field_with_s5 n c.1 c.2.1 c.2.2.1 c.2.2.2.1 c.2.2.2.2.1 c.2.2.2.2.2.1 c.2.2.2.2.2.2.1 c.2.2.2.2.2.2.2.1 c.2.2.2.2.2.2.2.2.1 c.2.2.2.2.2.2.2.2.2 s nx (fun (y0 : List Int) => Ko .ret [(5, .pv (.int .i64 1)), (4, .bx [.pv (.int .i64 0), .pv (.int .i64 0), .nl 3 (.ints .i64 y0), .pv (.int .i64 0)])]) (Ko (.exit 0) [(4, .bx [.pv (.int .i64 c.1), .pv (.int .i64 c.2.1), .ow 3 (.ints .i64 c.2.2.1), .pv (.int .i64 c.2.2.2.1)]), (6, .bx [.pv (.int .i64 c.2.2.2.2.1), .pv (.int .i64 c.2.2.2.2.2.1), .sl (.ints .i64 c.2.2.2.2.2.2.1), .pv (.int .i64 c.2.2.2.2.2.2.2.1)])])
noncomputable def tab (ρ : Type) (n : Nat) : Tab ρ := { live := [(0, [1, 2, 4]), (1, [1, 4, 6, 7]), (2, [1, 4, 6, 7, 16]), (3, [4, 5]), (4, [4, 6, 19, 20, 21]), (5, [4, 6, 19, 20, 21, 22]), (6, [4, 6, 9, 19, 20, 21]), (7, [4, 6, 19, 20, 21, 32]), (8, [4, 5]), (9, [4, 6, 19, 20, 21]), (10, [4, 5])], xl := [(0, [4, 6]), (1, [4, 6, 19, 20, 21])], rl := [4, 5], fz := [], jp := [], lp := [(5, fun A Ko => bnd (d5 A) fun p => iterM (st5 n p.1 Ko) n p.2)] }
noncomputable def b5 : Code := (cL (cB (c2 (c1 (c2 (c2 (c2 body)))))))
theorem d5_ok (A : Fr) (c : Int × Int × (List Int) × Int × Int × Int × (List Int) × Int × (List Int) × Int) (s : Int) (h : d5 A = some (c, s)) : A = F5 c s := by
  unfold d5 at h
  split at h
  · cases h; rfl
  · cases h
theorem step5 (ρ : Type) (n : Nat) (c : Int × Int × (List Int) × Int × Int × Int × (List Int) × Int × (List Int) × Int) (Ko : Exit → Fr → Option ρ) (s : Int) (nx : (Int × Int × (List Int) × Int × Int × Int × (List Int) × Int × (List Int) × Int) → (Int) → Option ρ) :
    AEO (env n) (answers ρ (used n) (used n)) (tab ρ n) b5 (F5 c s) (thenO (fun A => bnd (d5 (restr (keepOf (env n) b5) A)) fun p => nx p.1 p.2) Ko) = st5 n c Ko s (nx c) := by kernel_rfl
theorem lp5_ok {ρ : Type} (n : Nat) (hl : EntsOK Tryd.prog gl (used n)) : ∀ (A : Fr) (Ko : Exit → Fr → Option ρ) (r : ρ) (K : Exit → Fr → Prop), (bnd (d5 (restr (keepOf (env n) b5) A)) fun p => iterM (st5 n p.1 Ko) n p.2) = some r → (∀ e A, Ko e A = some r → K e A) → Gx.Sem Tryd.prog (env n) (.loop b5) A K :=
  fun A Ko r K h hk => loop_cod (P := Tryd.prog) (E := env n) (T := tab ρ n) (fun _ _ _ h => answers_ok h) F5 d5 (st5 n) d5_ok (show Cov _ (env n) (tab ρ n) b5 from ⟨trivial, ⟨⟨trivial, trivial⟩, ⟨⟨trivial, ⟨trivial, ⟨⟨trivial, trivial⟩, trivial⟩⟩⟩, trivial⟩⟩⟩) (fun c Ko s nx => step5 ρ n c Ko s nx) n A Ko r K h hk
def enc (a : Int × Int × (List Int) × (List Int)) : List AV := [.ag [.pv (.int .i64 a.1), .pv (.int .i64 a.2.1), .sl (.ints .i64 a.2.2.1)], .ls (.ints .i64 a.2.2.2)]
def dec : List AV → Option (Int × Int × (List Int) × (List Int))
  | [.ag [.pv (.int .i64 f0_0), .pv (.int .i64 f0_1), .sl (.ints .i64 f0_2)], .ls (.ints .i64 elements1)] => some (f0_0, f0_1, f0_2, elements1)
  | _ => none
def emb (b : Int × Int × (List Int) × Int × Int) : AV × List AV := (.tp [.ag [.pv (.int .i64 b.1), .pv (.int .i64 b.2.1), .sl (.ints .i64 b.2.2.1), .pv (.int .i64 b.2.2.2.1)], .pv (.int .i64 b.2.2.2.2)], [])
def dr : AV → List AV → Option (Int × Int × (List Int) × Int × Int)
  | .tp [.ag [.pv (.int .i64 r0), .pv (.int .i64 r1), .sl (.ints .i64 r2), .pv (.int .i64 r3)], .pv (.int .i64 r4)], [] => some (r0, r1, r2, r3, r4)
  | _, _ => none
theorem dec_ok (vs : List AV) (a : Int × Int × (List Int) × (List Int)) (h : dec vs = some a) : vs = enc a := by
  unfold dec at h
  split at h
  · cases h; rfl
  · cases h
theorem dr_ok (v : AV) (o : List AV) (b : Int × Int × (List Int) × Int × Int) (h : dr v o = some b) : emb b = (v, o) := by
  unfold dr at h
  split at h
  · cases h; rfl
  · cases h
noncomputable def ent (n : Nat) : Ent := { f := 80, ms := [.frz, .lend], α := Int × Int × (List Int) × (List Int), β := Int × Int × (List Int) × Int × Int, dec := dec, enc := enc, emb := emb, m := fun a => Gm.field_with n a.1 a.2.1 a.2.2.1 a.2.2.2, hdec := dec_ok }
theorem run (n : Nat) (a : Int × Int × (List Int) × (List Int)) : AEO (env n) (answers (Int × Int × (List Int) × Int × Int) (used n) (used n)) (tab (Int × Int × (List Int) × Int × Int) n) body (frameOf (enc a) 0) (bodyO (env n) Tryd.f80.results.toList (enc a) dr) = (ent n).m a := by kernel_rfl
theorem ok (n : Nat) (hl : EntsOK Tryd.prog gl (used n)) : EntOK Tryd.prog gl (ent n) :=
  fnO_sound (P := Tryd.prog) (e := ent n) (fn := Tryd.f80) (body := body) (l := used n) (te := te) (gl := gl) (n := ⟨2, 36⟩) (cut := []) (keep := keep) (T := tab (Int × Int × (List Int) × Int × Int) n) (dr := dr) Tryd.func80 (by kernel_rfl) (by kernel_rfl) te_ok (by kernel_rfl) (by kernel_rfl) hl (show Cov _ (env n) (tab (Int × Int × (List Int) × Int × Int) n) body from ⟨trivial, ⟨trivial, ⟨⟨trivial, ⟨⟨trivial, trivial⟩, trivial⟩⟩, ⟨⟨trivial, lp5_ok n hl⟩, ⟨trivial, trivial⟩⟩⟩⟩⟩) dr_ok (fun a => ⟨rfl, rfl⟩) (run n)
theorem all_ok (n : Nat) : EntOK Tryd.prog gl (ent n) := ok n ⟨W_field_open.all_ok n, trivial⟩
end W_field_with
namespace W_field_room_add
noncomputable def body : Code := Tryd.f81.body.getD .skip
def keep : List (Nat × List Nat) := [(3, [3, 7, 8, 20])]
noncomputable def used (n : Nat) : List Ent := [W_field_digits.ent n, W_field_room_number.ent n]
noncomputable def env (n : Nat) : Env := envOf te gl (used n) ⟨3, 40⟩ [] keep
def Fg1 (c : Int × Int × (List Int) × Int × Int × Int) : Fr := [(3, .bx [.pv (.int .i64 c.1), .pv (.int .i64 c.2.1), .ls (.ints .i64 c.2.2.1), .pv (.int .i64 c.2.2.2.1)]), (1, .pv (.int .i64 c.2.2.2.2.1)), (2, .pv (.int .i64 c.2.2.2.2.2))]
def dg1 : Fr → Option (Int × Int × (List Int) × Int × Int × Int)
  | [(3, .bx [.pv (.int .i64 r3_0), .pv (.int .i64 r3_1), .ls (.ints .i64 r3_2), .pv (.int .i64 r3_3)]), (1, .pv (.int .i64 a1)), (2, .pv (.int .i64 b2))] => some (r3_0, r3_1, r3_2, r3_3, a1, b2)
  | _ => none
def gg1 {ρ : Type} (n : Nat) (c : Int × Int × (List Int) × Int × Int × Int) (Ko : Fr → Option ρ) : Option ρ :=
  Gm.field_room_add_g1 n c.1 c.2.1 c.2.2.1 c.2.2.2.1 c.2.2.2.2.1 c.2.2.2.2.2 (fun (y0 : List Int) (y1 : List Int) => Ko [(3, .bx [.pv (.int .i64 c.1), .pv (.int .i64 c.2.1), .ls (.ints .i64 c.2.2.1), .pv (.int .i64 c.2.2.2.1)]), (7, .ba (.ints .i64 y0)), (8, .ba (.ints .i64 y1))])
noncomputable def og1 : Array Oper := match (c1 (c2 body)) with | .region _ ops _ => ops | _ => #[]
theorem dg1_ok (A : Fr) (c : Int × Int × (List Int) × Int × Int × Int) (h : dg1 A = some c) : A = Fg1 c := by
  unfold dg1 at h
  split at h
  · cases h; rfl
  · cases h
def F3 (c : Int × Int × (List Int) × Int × (List Int)) (s : (List Int) × Int) : Fr := [(3, .bx [.pv (.int .i64 c.1), .pv (.int .i64 c.2.1), .ls (.ints .i64 c.2.2.1), .pv (.int .i64 c.2.2.2.1)]), (7, .ba (.ints .i64 s.1)), (8, .ba (.ints .i64 c.2.2.2.2)), (20, .pv (.int .i64 s.2))]
def d3 : Fr → Option ((Int × Int × (List Int) × Int × (List Int)) × ((List Int) × Int))
  | [(3, .bx [.pv (.int .i64 r3_0), .pv (.int .i64 r3_1), .ls (.ints .i64 r3_2), .pv (.int .i64 r3_3)]), (7, .ba (.ints .i64 x7)), (8, .ba (.ints .i64 y8)), (20, .pv (.int .i64 t20))] => some ((r3_0, r3_1, r3_2, r3_3, y8), (x7, t20))
  | _ => none
def st3 {ρ : Type} (n : Nat) (c : Int × Int × (List Int) × Int × (List Int)) (Ko : Exit → Fr → Option ρ) (s : (List Int) × Int) (nx : ((List Int) × Int) → Option ρ) : Option ρ :=
  Gm.field_room_add_s3 n c.1 c.2.1 c.2.2.1 c.2.2.2.1 c.2.2.2.2 s.1 s.2 (fun a0 a1 => nx (a0, a1)) (fun (y0 : List Int) => Ko (.exit 0) [(3, .bx [.pv (.int .i64 c.1), .pv (.int .i64 c.2.1), .ls (.ints .i64 c.2.2.1), .pv (.int .i64 c.2.2.2.1)]), (7, .ba (.ints .i64 y0))])
noncomputable def tab (ρ : Type) (n : Nat) : Tab ρ := { live := [(0, [1, 2, 3]), (1, [3, 7, 8]), (2, [3, 7, 8, 20]), (3, [3, 7, 8, 20, 21]), (4, [3, 7, 8, 9, 20]), (5, [3, 7, 8, 20]), (6, [3, 7, 8, 20]), (7, [6])], xl := [(0, [3, 7]), (1, [3, 7, 8, 20])], rl := [6], fz := [], jp := [], lp := [(3, fun A Ko => bnd (d3 A) fun p => iterM (st3 n p.1 Ko) n p.2)], rg := [(1, fun A Ko => bnd (dg1 A) fun c => gg1 n c Ko)] }
theorem rg1_ok {ρ : Type} (n : Nat) (hl : EntsOK Tryd.prog gl (used n)) : ∀ (A : Fr) (Ko : Fr → Option ρ) (r : ρ) (K : Exit → Fr → Prop), (bnd (dg1 A) fun c => gg1 n c Ko) = some r → (∀ A, Ko A = some r → K .normal A) → Gx.Sem Tryd.prog (env n) (.region 1 og1 true) A K :=
  region_cod (P := Tryd.prog) (E := env n) (orc := answers ρ (used n) (used n)) (fun _ _ _ h => answers_ok h) Fg1 dg1 (gg1 n) [3, 7, 8] [2, 4, 7, 9, 10, 11] [[0, 1, 2, 3, 4, 5, 6, 7, 8, 9, 10, 11, 12, 13], [0, 1, 2, 3, 4, 5, 6, 7, 8, 9, 11, 10, 12, 13], [0, 1, 2, 3, 4, 5, 6, 7, 8, 10, 9, 11, 12, 13], [0, 1, 2, 3, 4, 5, 6, 7, 8, 10, 11, 9, 12, 13], [0, 1, 2, 3, 4, 5, 6, 7, 8, 11, 9, 10, 12, 13], [0, 1, 2, 3, 4, 5, 6, 7, 8, 11, 10, 9, 12, 13], [0, 1, 2, 3, 4, 5, 6, 8, 10, 7, 9, 11, 12, 13], [0, 1, 2, 3, 4, 5, 6, 8, 10, 7, 11, 9, 12, 13], [0, 1, 2, 3, 4, 5, 6, 8, 10, 11, 7, 9, 12, 13], [0, 1, 2, 3, 4, 5, 6, 8, 11, 7, 9, 10, 12, 13], [0, 1, 2, 3, 4, 5, 6, 8, 11, 7, 10, 9, 12, 13], [0, 1, 2, 3, 4, 5, 6, 8, 11, 10, 7, 9, 12, 13], [0, 1, 2, 3, 5, 6, 7, 4, 8, 9, 10, 11, 12, 13], [0, 1, 2, 3, 5, 6, 7, 4, 8, 9, 11, 10, 12, 13], [0, 1, 2, 3, 5, 6, 7, 4, 8, 10, 9, 11, 12, 13], [0, 1, 2, 3, 5, 6, 7, 4, 8, 10, 11, 9, 12, 13], [0, 1, 2, 3, 5, 6, 7, 4, 8, 11, 9, 10, 12, 13], [0, 1, 2, 3, 5, 6, 7, 4, 8, 11, 10, 9, 12, 13], [0, 1, 2, 3, 5, 6, 7, 8, 10, 4, 9, 11, 12, 13], [0, 1, 2, 3, 5, 6, 7, 8, 10, 4, 11, 9, 12, 13], [0, 1, 2, 3, 5, 6, 7, 8, 10, 11, 4, 9, 12, 13], [0, 1, 2, 3, 5, 6, 7, 8, 11, 4, 9, 10, 12, 13], [0, 1, 2, 3, 5, 6, 7, 8, 11, 4, 10, 9, 12, 13], [0, 1, 2, 3, 5, 6, 7, 8, 11, 10, 4, 9, 12, 13], [0, 1, 2, 3, 5, 6, 8, 10, 4, 7, 9, 11, 12, 13], [0, 1, 2, 3, 5, 6, 8, 10, 4, 7, 11, 9, 12, 13], [0, 1, 2, 3, 5, 6, 8, 10, 4, 11, 7, 9, 12, 13], [0, 1, 2, 3, 5, 6, 8, 10, 7, 4, 9, 11, 12, 13], [0, 1, 2, 3, 5, 6, 8, 10, 7, 4, 11, 9, 12, 13], [0, 1, 2, 3, 5, 6, 8, 10, 7, 11, 4, 9, 12, 13], [0, 1, 2, 3, 5, 6, 8, 10, 11, 4, 7, 9, 12, 13], [0, 1, 2, 3, 5, 6, 8, 10, 11, 7, 4, 9, 12, 13], [0, 1, 2, 3, 5, 6, 8, 11, 4, 7, 9, 10, 12, 13], [0, 1, 2, 3, 5, 6, 8, 11, 4, 7, 10, 9, 12, 13], [0, 1, 2, 3, 5, 6, 8, 11, 4, 10, 7, 9, 12, 13], [0, 1, 2, 3, 5, 6, 8, 11, 7, 4, 9, 10, 12, 13], [0, 1, 2, 3, 5, 6, 8, 11, 7, 4, 10, 9, 12, 13], [0, 1, 2, 3, 5, 6, 8, 11, 7, 10, 4, 9, 12, 13], [0, 1, 2, 3, 5, 6, 8, 11, 10, 4, 7, 9, 12, 13], [0, 1, 2, 3, 5, 6, 8, 11, 10, 7, 4, 9, 12, 13], [0, 1, 3, 5, 6, 7, 2, 4, 8, 9, 10, 11, 12, 13], [0, 1, 3, 5, 6, 7, 2, 4, 8, 9, 11, 10, 12, 13], [0, 1, 3, 5, 6, 7, 2, 4, 8, 10, 9, 11, 12, 13], [0, 1, 3, 5, 6, 7, 2, 4, 8, 10, 11, 9, 12, 13], [0, 1, 3, 5, 6, 7, 2, 4, 8, 11, 9, 10, 12, 13], [0, 1, 3, 5, 6, 7, 2, 4, 8, 11, 10, 9, 12, 13], [0, 1, 3, 5, 6, 7, 2, 8, 10, 4, 9, 11, 12, 13], [0, 1, 3, 5, 6, 7, 2, 8, 10, 4, 11, 9, 12, 13], [0, 1, 3, 5, 6, 7, 2, 8, 10, 11, 4, 9, 12, 13], [0, 1, 3, 5, 6, 7, 2, 8, 11, 4, 9, 10, 12, 13], [0, 1, 3, 5, 6, 7, 2, 8, 11, 4, 10, 9, 12, 13], [0, 1, 3, 5, 6, 7, 2, 8, 11, 10, 4, 9, 12, 13], [0, 1, 3, 5, 6, 7, 8, 10, 2, 4, 9, 11, 12, 13], [0, 1, 3, 5, 6, 7, 8, 10, 2, 4, 11, 9, 12, 13], [0, 1, 3, 5, 6, 7, 8, 10, 2, 11, 4, 9, 12, 13], [0, 1, 3, 5, 6, 7, 8, 10, 11, 2, 4, 9, 12, 13], [0, 1, 3, 5, 6, 7, 8, 11, 2, 4, 9, 10, 12, 13], [0, 1, 3, 5, 6, 7, 8, 11, 2, 4, 10, 9, 12, 13], [0, 1, 3, 5, 6, 7, 8, 11, 2, 10, 4, 9, 12, 13], [0, 1, 3, 5, 6, 7, 8, 11, 10, 2, 4, 9, 12, 13], [0, 1, 3, 5, 6, 8, 10, 2, 4, 7, 9, 11, 12, 13], [0, 1, 3, 5, 6, 8, 10, 2, 4, 7, 11, 9, 12, 13], [0, 1, 3, 5, 6, 8, 10, 2, 4, 11, 7, 9, 12, 13], [0, 1, 3, 5, 6, 8, 10, 2, 7, 4, 9, 11, 12, 13], [0, 1, 3, 5, 6, 8, 10, 2, 7, 4, 11, 9, 12, 13], [0, 1, 3, 5, 6, 8, 10, 2, 7, 11, 4, 9, 12, 13], [0, 1, 3, 5, 6, 8, 10, 2, 11, 4, 7, 9, 12, 13], [0, 1, 3, 5, 6, 8, 10, 2, 11, 7, 4, 9, 12, 13], [0, 1, 3, 5, 6, 8, 10, 7, 2, 4, 9, 11, 12, 13], [0, 1, 3, 5, 6, 8, 10, 7, 2, 4, 11, 9, 12, 13], [0, 1, 3, 5, 6, 8, 10, 7, 2, 11, 4, 9, 12, 13], [0, 1, 3, 5, 6, 8, 10, 7, 11, 2, 4, 9, 12, 13], [0, 1, 3, 5, 6, 8, 10, 11, 2, 4, 7, 9, 12, 13], [0, 1, 3, 5, 6, 8, 10, 11, 2, 7, 4, 9, 12, 13], [0, 1, 3, 5, 6, 8, 10, 11, 7, 2, 4, 9, 12, 13], [0, 1, 3, 5, 6, 8, 11, 2, 4, 7, 9, 10, 12, 13], [0, 1, 3, 5, 6, 8, 11, 2, 4, 7, 10, 9, 12, 13], [0, 1, 3, 5, 6, 8, 11, 2, 4, 10, 7, 9, 12, 13], [0, 1, 3, 5, 6, 8, 11, 2, 7, 4, 9, 10, 12, 13], [0, 1, 3, 5, 6, 8, 11, 2, 7, 4, 10, 9, 12, 13], [0, 1, 3, 5, 6, 8, 11, 2, 7, 10, 4, 9, 12, 13], [0, 1, 3, 5, 6, 8, 11, 2, 10, 4, 7, 9, 12, 13], [0, 1, 3, 5, 6, 8, 11, 2, 10, 7, 4, 9, 12, 13], [0, 1, 3, 5, 6, 8, 11, 7, 2, 4, 9, 10, 12, 13], [0, 1, 3, 5, 6, 8, 11, 7, 2, 4, 10, 9, 12, 13], [0, 1, 3, 5, 6, 8, 11, 7, 2, 10, 4, 9, 12, 13], [0, 1, 3, 5, 6, 8, 11, 7, 10, 2, 4, 9, 12, 13], [0, 1, 3, 5, 6, 8, 11, 10, 2, 4, 7, 9, 12, 13], [0, 1, 3, 5, 6, 8, 11, 10, 2, 7, 4, 9, 12, 13], [0, 1, 3, 5, 6, 8, 11, 10, 7, 2, 4, 9, 12, 13]] (by kernel_rfl) ⟨by kernel_rfl, by kernel_rfl⟩ (by kernel_rfl) dg1_ok (fun c Ko => by kernel_rfl)
noncomputable def b3 : Code := (cL (cB (c2 (c1 (c2 (c2 body))))))
theorem d3_ok (A : Fr) (c : Int × Int × (List Int) × Int × (List Int)) (s : (List Int) × Int) (h : d3 A = some (c, s)) : A = F3 c s := by
  unfold d3 at h
  split at h
  · cases h; rfl
  · cases h
theorem step3 (ρ : Type) (n : Nat) (c : Int × Int × (List Int) × Int × (List Int)) (Ko : Exit → Fr → Option ρ) (s : (List Int) × Int) (nx : (Int × Int × (List Int) × Int × (List Int)) → ((List Int) × Int) → Option ρ) :
    AEO (env n) (answers ρ (used n) (used n)) (tab ρ n) b3 (F3 c s) (thenO (fun A => bnd (d3 (restr (keepOf (env n) b3) A)) fun p => nx p.1 p.2) Ko) = st3 n c Ko s (nx c) := by kernel_rfl
theorem lp3_ok {ρ : Type} (n : Nat) (hl : EntsOK Tryd.prog gl (used n)) : ∀ (A : Fr) (Ko : Exit → Fr → Option ρ) (r : ρ) (K : Exit → Fr → Prop), (bnd (d3 (restr (keepOf (env n) b3) A)) fun p => iterM (st3 n p.1 Ko) n p.2) = some r → (∀ e A, Ko e A = some r → K e A) → Gx.Sem Tryd.prog (env n) (.loop b3) A K :=
  fun A Ko r K h hk => loop_cod (P := Tryd.prog) (E := env n) (T := tab ρ n) (fun _ _ _ h => answers_ok h) F3 d3 (st3 n) d3_ok (show Cov _ (env n) (tab ρ n) b3 from ⟨trivial, ⟨⟨trivial, trivial⟩, ⟨⟨trivial, trivial⟩, trivial⟩⟩⟩) (fun c Ko s nx => step3 ρ n c Ko s nx) n A Ko r K h hk
def enc (a : Int × Int × (List Int) × Int × Int × Int) : List AV := [.ag [.pv (.int .i64 a.1), .pv (.int .i64 a.2.1), .ls (.ints .i64 a.2.2.1), .pv (.int .i64 a.2.2.2.1)], .pv (.int .i64 a.2.2.2.2.1), .pv (.int .i64 a.2.2.2.2.2)]
def dec : List AV → Option (Int × Int × (List Int) × Int × Int × Int)
  | [.ag [.pv (.int .i64 r0_0), .pv (.int .i64 r0_1), .ls (.ints .i64 r0_2), .pv (.int .i64 r0_3)], .pv (.int .i64 a1), .pv (.int .i64 b2)] => some (r0_0, r0_1, r0_2, r0_3, a1, b2)
  | _ => none
def emb (b : Int) : AV × List AV := (.pv (.int .i64 b), [])
def dr : AV → List AV → Option (Int)
  | .pv (.int .i64 r0), [] => some r0
  | _, _ => none
theorem dec_ok (vs : List AV) (a : Int × Int × (List Int) × Int × Int × Int) (h : dec vs = some a) : vs = enc a := by
  unfold dec at h
  split at h
  · cases h; rfl
  · cases h
theorem dr_ok (v : AV) (o : List AV) (b : Int) (h : dr v o = some b) : emb b = (v, o) := by
  unfold dr at h
  split at h
  · cases h; rfl
  · cases h
noncomputable def ent (n : Nat) : Ent := { f := 81, ms := [.lend, .lend, .lend], α := Int × Int × (List Int) × Int × Int × Int, β := Int, dec := dec, enc := enc, emb := emb, m := fun a => Gm.field_room_add n a.1 a.2.1 a.2.2.1 a.2.2.2.1 a.2.2.2.2.1 a.2.2.2.2.2, hdec := dec_ok }
theorem run (n : Nat) (a : Int × Int × (List Int) × Int × Int × Int) : AEO (env n) (answers (Int) (used n) (used n)) (tab (Int) n) body (frameOf (enc a) 0) (bodyO (env n) Tryd.f81.results.toList (enc a) dr) = (ent n).m a := by kernel_rfl
theorem ok (n : Nat) (hl : EntsOK Tryd.prog gl (used n)) : EntOK Tryd.prog gl (ent n) :=
  fnO_sound (P := Tryd.prog) (e := ent n) (fn := Tryd.f81) (body := body) (l := used n) (te := te) (gl := gl) (n := ⟨3, 40⟩) (cut := []) (keep := keep) (T := tab (Int) n) (dr := dr) Tryd.func81 (by kernel_rfl) (by kernel_rfl) te_ok (by kernel_rfl) (by kernel_rfl) hl (show Cov _ (env n) (tab (Int) n) body from ⟨trivial, ⟨rg1_ok n hl, ⟨⟨trivial, lp3_ok n hl⟩, ⟨trivial, trivial⟩⟩⟩⟩) dr_ok (fun a => ⟨rfl, rfl⟩) (run n)
theorem all_ok (n : Nat) : EntOK Tryd.prog gl (ent n) := ok n ⟨W_field_digits.all_ok n, W_field_room_number.all_ok n, trivial⟩
end W_field_room_add
namespace W_field_room_pow
noncomputable def body : Code := Tryd.f82.body.getD .skip
def keep : List (Nat × List Nat) := [(2, [1, 2, 3, 7])]
noncomputable def used (n : Nat) : List Ent := [W_field_room_mul.ent n]
noncomputable def env (n : Nat) : Env := envOf te gl (used n) ⟨1, 24⟩ [] keep
def F2 (c : Int × Int × (List Int) × Int) (s : Int × Int × Int) : Fr := [(1, .pv (.int .i64 s.1)), (2, .pv (.int .i64 s.2.1)), (3, .bx [.pv (.int .i64 c.1), .pv (.int .i64 c.2.1), .ls (.ints .i64 c.2.2.1), .pv (.int .i64 c.2.2.2)]), (7, .pv (.int .i64 s.2.2))]
def d2 : Fr → Option ((Int × Int × (List Int) × Int) × (Int × Int × Int))
  | [(1, .pv (.int .i64 a1)), (2, .pv (.int .i64 n_2)), (3, .bx [.pv (.int .i64 r3_0), .pv (.int .i64 r3_1), .ls (.ints .i64 r3_2), .pv (.int .i64 r3_3)]), (7, .pv (.int .i64 out7))] => some ((r3_0, r3_1, r3_2, r3_3), (a1, n_2, out7))
  | _ => none
def st2 {ρ : Type} (n : Nat) (c : Int × Int × (List Int) × Int) (Ko : Exit → Fr → Option ρ) (s : Int × Int × Int) (nx : (Int × Int × Int) → Option ρ) : Option ρ :=
  Gm.field_room_pow_s2 n c.1 c.2.1 c.2.2.1 c.2.2.2 s.1 s.2.1 s.2.2 (fun a0 a1 a2 => nx (a0, a1, a2)) (fun (y0 : Int) => Ko (.exit 0) [(7, .pv (.int .i64 y0))])
noncomputable def tab (ρ : Type) (n : Nat) : Tab ρ := { live := [(0, [1, 2, 3]), (1, [1, 2, 3, 7]), (2, [1, 2, 3, 7, 9]), (3, [1, 2, 3, 7]), (4, [1, 2, 3, 7, 14]), (5, [1, 2, 3, 7]), (6, [1, 2, 3, 7]), (7, [6])], xl := [(0, [7]), (1, [1, 2, 3, 7])], rl := [6], fz := [], jp := [], lp := [(2, fun A Ko => bnd (d2 A) fun p => iterM (st2 n p.1 Ko) n p.2)] }
noncomputable def b2 : Code := (cL (cB (c1 (c2 (c2 body)))))
theorem d2_ok (A : Fr) (c : Int × Int × (List Int) × Int) (s : Int × Int × Int) (h : d2 A = some (c, s)) : A = F2 c s := by
  unfold d2 at h
  split at h
  · cases h; rfl
  · cases h
theorem step2 (ρ : Type) (n : Nat) (c : Int × Int × (List Int) × Int) (Ko : Exit → Fr → Option ρ) (s : Int × Int × Int) (nx : (Int × Int × (List Int) × Int) → (Int × Int × Int) → Option ρ) :
    AEO (env n) (answers ρ (used n) (used n)) (tab ρ n) b2 (F2 c s) (thenO (fun A => bnd (d2 (restr (keepOf (env n) b2) A)) fun p => nx p.1 p.2) Ko) = st2 n c Ko s (nx c) := by kernel_rfl
theorem lp2_ok {ρ : Type} (n : Nat) (hl : EntsOK Tryd.prog gl (used n)) : ∀ (A : Fr) (Ko : Exit → Fr → Option ρ) (r : ρ) (K : Exit → Fr → Prop), (bnd (d2 (restr (keepOf (env n) b2) A)) fun p => iterM (st2 n p.1 Ko) n p.2) = some r → (∀ e A, Ko e A = some r → K e A) → Gx.Sem Tryd.prog (env n) (.loop b2) A K :=
  fun A Ko r K h hk => loop_cod (P := Tryd.prog) (E := env n) (T := tab ρ n) (fun _ _ _ h => answers_ok h) F2 d2 (st2 n) d2_ok (show Cov _ (env n) (tab ρ n) b2 from ⟨⟨trivial, ⟨trivial, trivial⟩⟩, ⟨⟨⟨trivial, ⟨trivial, trivial⟩⟩, trivial⟩, trivial⟩⟩) (fun c Ko s nx => step2 ρ n c Ko s nx) n A Ko r K h hk
def enc (a : Int × Int × (List Int) × Int × Int × Int) : List AV := [.ag [.pv (.int .i64 a.1), .pv (.int .i64 a.2.1), .ls (.ints .i64 a.2.2.1), .pv (.int .i64 a.2.2.2.1)], .pv (.int .i64 a.2.2.2.2.1), .pv (.int .i64 a.2.2.2.2.2)]
def dec : List AV → Option (Int × Int × (List Int) × Int × Int × Int)
  | [.ag [.pv (.int .i64 r0_0), .pv (.int .i64 r0_1), .ls (.ints .i64 r0_2), .pv (.int .i64 r0_3)], .pv (.int .i64 a1), .pv (.int .i64 n_2)] => some (r0_0, r0_1, r0_2, r0_3, a1, n_2)
  | _ => none
def emb (b : Int) : AV × List AV := (.pv (.int .i64 b), [])
def dr : AV → List AV → Option (Int)
  | .pv (.int .i64 r0), [] => some r0
  | _, _ => none
theorem dec_ok (vs : List AV) (a : Int × Int × (List Int) × Int × Int × Int) (h : dec vs = some a) : vs = enc a := by
  unfold dec at h
  split at h
  · cases h; rfl
  · cases h
theorem dr_ok (v : AV) (o : List AV) (b : Int) (h : dr v o = some b) : emb b = (v, o) := by
  unfold dr at h
  split at h
  · cases h; rfl
  · cases h
noncomputable def ent (n : Nat) : Ent := { f := 82, ms := [.lend, .lend, .lend], α := Int × Int × (List Int) × Int × Int × Int, β := Int, dec := dec, enc := enc, emb := emb, m := fun a => Gm.field_room_pow n a.1 a.2.1 a.2.2.1 a.2.2.2.1 a.2.2.2.2.1 a.2.2.2.2.2, hdec := dec_ok }
theorem run (n : Nat) (a : Int × Int × (List Int) × Int × Int × Int) : AEO (env n) (answers (Int) (used n) (used n)) (tab (Int) n) body (frameOf (enc a) 0) (bodyO (env n) Tryd.f82.results.toList (enc a) dr) = (ent n).m a := by kernel_rfl
theorem ok (n : Nat) (hl : EntsOK Tryd.prog gl (used n)) : EntOK Tryd.prog gl (ent n) :=
  fnO_sound (P := Tryd.prog) (e := ent n) (fn := Tryd.f82) (body := body) (l := used n) (te := te) (gl := gl) (n := ⟨1, 24⟩) (cut := []) (keep := keep) (T := tab (Int) n) (dr := dr) Tryd.func82 (by kernel_rfl) (by kernel_rfl) te_ok (by kernel_rfl) (by kernel_rfl) hl (show Cov _ (env n) (tab (Int) n) body from ⟨trivial, ⟨trivial, ⟨lp2_ok n hl, ⟨trivial, trivial⟩⟩⟩⟩) dr_ok (fun a => ⟨rfl, rfl⟩) (run n)
theorem all_ok (n : Nat) : EntOK Tryd.prog gl (ent n) := ok n ⟨W_field_room_mul.all_ok n, trivial⟩
end W_field_room_pow
namespace W_field_Trace
noncomputable def body : Code := Tryd.f36.body.getD .skip
def keep : List (Nat × List Nat) := [(6, [1, 6, 8, 21, 22])]
noncomputable def used (n : Nat) : List Ent := [W_field_with.ent n, W_field_room_add.ent n, W_field_room_pow.ent n]
noncomputable def env (n : Nat) : Env := envOf te gl (used n) ⟨1, 36⟩ [] keep
def F6 (c : Int × Int × (List Int) × Int × Int) (s : Int × Int × Int) : Fr := [(1, .pv (.int .i64 s.1)), (6, .bx [.pv (.int .i64 c.1), .pv (.int .i64 c.2.1), .sl (.ints .i64 c.2.2.1), .pv (.int .i64 c.2.2.2.1)]), (8, .pv (.int .i64 s.2.1)), (21, .pv (.int .i64 c.2.2.2.2)), (22, .pv (.int .i64 s.2.2))]
def d6 : Fr → Option ((Int × Int × (List Int) × Int × Int) × (Int × Int × Int))
  | [(1, .pv (.int .i64 a1)), (6, .bx [.pv (.int .i64 r6_0), .pv (.int .i64 r6_1), .sl (.ints .i64 r6_2), .pv (.int .i64 r6_3)]), (8, .pv (.int .i64 sum8)), (21, .pv (.int .i64 t21)), (22, .pv (.int .i64 t22))] => some ((r6_0, r6_1, r6_2, r6_3, t21), (a1, sum8, t22))
  | _ => none
def st6 {ρ : Type} (n : Nat) (c : Int × Int × (List Int) × Int × Int) (Ko : Exit → Fr → Option ρ) (s : Int × Int × Int) (nx : (Int × Int × Int) → Option ρ) : Option ρ :=
  Gm.field_Trace_s6 n c.1 c.2.1 c.2.2.1 c.2.2.2.1 c.2.2.2.2 s.1 s.2.1 s.2.2 (fun a0 a1 a2 => nx (a0, a1, a2)) (fun (y0 : Int) => Ko (.exit 0) [(8, .pv (.int .i64 y0))])
noncomputable def tab (ρ : Type) (n : Nat) : Tab ρ := { live := [(0, [1, 2]), (1, [1, 6, 7]), (2, [1, 6, 7, 17]), (3, [4, 5]), (4, [1, 6, 8]), (5, [1, 6, 8, 21, 22]), (6, [1, 6, 8, 21, 22, 23]), (7, [1, 6, 8, 21, 22]), (8, [1, 6, 8, 21, 22]), (9, [1, 6, 8, 21, 22]), (10, [4, 5])], xl := [(0, [8]), (1, [1, 6, 8, 21, 22])], rl := [4, 5], fz := [], jp := [], lp := [(6, fun A Ko => bnd (d6 A) fun p => iterM (st6 n p.1 Ko) n p.2)] }
noncomputable def b6 : Code := (cL (cB (c2 (c1 (c2 (c2 (c2 (c2 body))))))))
theorem d6_ok (A : Fr) (c : Int × Int × (List Int) × Int × Int) (s : Int × Int × Int) (h : d6 A = some (c, s)) : A = F6 c s := by
  unfold d6 at h
  split at h
  · cases h; rfl
  · cases h
theorem step6 (ρ : Type) (n : Nat) (c : Int × Int × (List Int) × Int × Int) (Ko : Exit → Fr → Option ρ) (s : Int × Int × Int) (nx : (Int × Int × (List Int) × Int × Int) → (Int × Int × Int) → Option ρ) :
    AEO (env n) (answers ρ (used n) (used n)) (tab ρ n) b6 (F6 c s) (thenO (fun A => bnd (d6 (restr (keepOf (env n) b6) A)) fun p => nx p.1 p.2) Ko) = st6 n c Ko s (nx c) := by kernel_rfl
theorem lp6_ok {ρ : Type} (n : Nat) (hl : EntsOK Tryd.prog gl (used n)) : ∀ (A : Fr) (Ko : Exit → Fr → Option ρ) (r : ρ) (K : Exit → Fr → Prop), (bnd (d6 (restr (keepOf (env n) b6) A)) fun p => iterM (st6 n p.1 Ko) n p.2) = some r → (∀ e A, Ko e A = some r → K e A) → Gx.Sem Tryd.prog (env n) (.loop b6) A K :=
  fun A Ko r K h hk => loop_cod (P := Tryd.prog) (E := env n) (T := tab ρ n) (fun _ _ _ h => answers_ok h) F6 d6 (st6 n) d6_ok (show Cov _ (env n) (tab ρ n) b6 from ⟨trivial, ⟨⟨trivial, trivial⟩, ⟨⟨trivial, trivial⟩, trivial⟩⟩⟩) (fun c Ko s nx => step6 ρ n c Ko s nx) n A Ko r K h hk
def enc (a : Int × Int × (List Int) × Int) : List AV := [.ag [.pv (.int .i64 a.1), .pv (.int .i64 a.2.1), .sl (.ints .i64 a.2.2.1)], .pv (.int .i64 a.2.2.2)]
def dec : List AV → Option (Int × Int × (List Int) × Int)
  | [.ag [.pv (.int .i64 f0_0), .pv (.int .i64 f0_1), .sl (.ints .i64 f0_2)], .pv (.int .i64 a1)] => some (f0_0, f0_1, f0_2, a1)
  | _ => none
def emb (b : Int × Int) : AV × List AV := (.tp [.pv (.int .i64 b.1), .pv (.int .i64 b.2)], [])
def dr : AV → List AV → Option (Int × Int)
  | .tp [.pv (.int .i64 r0), .pv (.int .i64 r1)], [] => some (r0, r1)
  | _, _ => none
theorem dec_ok (vs : List AV) (a : Int × Int × (List Int) × Int) (h : dec vs = some a) : vs = enc a := by
  unfold dec at h
  split at h
  · cases h; rfl
  · cases h
theorem dr_ok (v : AV) (o : List AV) (b : Int × Int) (h : dr v o = some b) : emb b = (v, o) := by
  unfold dr at h
  split at h
  · cases h; rfl
  · cases h
noncomputable def ent (n : Nat) : Ent := { f := 36, ms := [.frz, .lend], α := Int × Int × (List Int) × Int, β := Int × Int, dec := dec, enc := enc, emb := emb, m := fun a => Gm.field_Trace n a.1 a.2.1 a.2.2.1 a.2.2.2, hdec := dec_ok }
theorem run (n : Nat) (a : Int × Int × (List Int) × Int) : AEO (env n) (answers (Int × Int) (used n) (used n)) (tab (Int × Int) n) body (frameOf (enc a) 0) (bodyO (env n) Tryd.f36.results.toList (enc a) dr) = (ent n).m a := by kernel_rfl
theorem ok (n : Nat) (hl : EntsOK Tryd.prog gl (used n)) : EntOK Tryd.prog gl (ent n) :=
  fnO_sound (P := Tryd.prog) (e := ent n) (fn := Tryd.f36) (body := body) (l := used n) (te := te) (gl := gl) (n := ⟨1, 36⟩) (cut := []) (keep := keep) (T := tab (Int × Int) n) (dr := dr) Tryd.func36 (by kernel_rfl) (by kernel_rfl) te_ok (by kernel_rfl) (by kernel_rfl) hl (show Cov _ (env n) (tab (Int × Int) n) body from ⟨trivial, ⟨trivial, ⟨⟨trivial, ⟨⟨trivial, trivial⟩, trivial⟩⟩, ⟨trivial, ⟨⟨trivial, lp6_ok n hl⟩, ⟨trivial, trivial⟩⟩⟩⟩⟩⟩) dr_ok (fun a => ⟨rfl, rfl⟩) (run n)
theorem all_ok (n : Nat) : EntOK Tryd.prog gl (ent n) := ok n ⟨W_field_with.all_ok n, W_field_room_add.all_ok n, W_field_room_pow.all_ok n, trivial⟩
end W_field_Trace
namespace W_field_Mul
noncomputable def body : Code := Tryd.f37.body.getD .skip
def keep : List (Nat × List Nat) := []
noncomputable def used (n : Nat) : List Ent := [W_field_with.ent n, W_field_room_mul.ent n]
noncomputable def env (n : Nat) : Env := envOf te gl (used n) ⟨3, 25⟩ [] keep
noncomputable def tab (ρ : Type) (_n : Nat) : Tab ρ := { live := [(0, [1, 2, 3]), (1, [1, 2, 8, 9]), (2, [1, 2, 8, 9, 19]), (3, [6, 7]), (4, [6, 7])], xl := [], rl := [6, 7], fz := [], jp := [], lp := [] }
def enc (a : Int × Int × (List Int) × Int × Int) : List AV := [.ag [.pv (.int .i64 a.1), .pv (.int .i64 a.2.1), .sl (.ints .i64 a.2.2.1)], .pv (.int .i64 a.2.2.2.1), .pv (.int .i64 a.2.2.2.2)]
def dec : List AV → Option (Int × Int × (List Int) × Int × Int)
  | [.ag [.pv (.int .i64 f0_0), .pv (.int .i64 f0_1), .sl (.ints .i64 f0_2)], .pv (.int .i64 a1), .pv (.int .i64 b2)] => some (f0_0, f0_1, f0_2, a1, b2)
  | _ => none
def emb (b : Int × Int) : AV × List AV := (.tp [.pv (.int .i64 b.1), .pv (.int .i64 b.2)], [])
def dr : AV → List AV → Option (Int × Int)
  | .tp [.pv (.int .i64 r0), .pv (.int .i64 r1)], [] => some (r0, r1)
  | _, _ => none
theorem dec_ok (vs : List AV) (a : Int × Int × (List Int) × Int × Int) (h : dec vs = some a) : vs = enc a := by
  unfold dec at h
  split at h
  · cases h; rfl
  · cases h
theorem dr_ok (v : AV) (o : List AV) (b : Int × Int) (h : dr v o = some b) : emb b = (v, o) := by
  unfold dr at h
  split at h
  · cases h; rfl
  · cases h
noncomputable def ent (n : Nat) : Ent := { f := 37, ms := [.frz, .lend, .lend], α := Int × Int × (List Int) × Int × Int, β := Int × Int, dec := dec, enc := enc, emb := emb, m := fun a => Gm.field_Mul n a.1 a.2.1 a.2.2.1 a.2.2.2.1 a.2.2.2.2, hdec := dec_ok }
theorem run (n : Nat) (a : Int × Int × (List Int) × Int × Int) : AEO (env n) (answers (Int × Int) (used n) (used n)) (tab (Int × Int) n) body (frameOf (enc a) 0) (bodyO (env n) Tryd.f37.results.toList (enc a) dr) = (ent n).m a := by kernel_rfl
theorem ok (n : Nat) (hl : EntsOK Tryd.prog gl (used n)) : EntOK Tryd.prog gl (ent n) :=
  fnO_sound (P := Tryd.prog) (e := ent n) (fn := Tryd.f37) (body := body) (l := used n) (te := te) (gl := gl) (n := ⟨3, 25⟩) (cut := []) (keep := keep) (T := tab (Int × Int) n) (dr := dr) Tryd.func37 (by kernel_rfl) (by kernel_rfl) te_ok (by kernel_rfl) (by kernel_rfl) hl (show Cov _ (env n) (tab (Int × Int) n) body from ⟨trivial, ⟨trivial, ⟨⟨trivial, ⟨⟨trivial, trivial⟩, trivial⟩⟩, ⟨trivial, trivial⟩⟩⟩⟩) dr_ok (fun a => ⟨rfl, rfl⟩) (run n)
theorem all_ok (n : Nat) : EntOK Tryd.prog gl (ent n) := ok n ⟨W_field_with.all_ok n, W_field_room_mul.all_ok n, trivial⟩
end W_field_Mul
namespace W_differ_Singer
noncomputable def body : Code := Tryd.f9.body.getD .skip
def keep : List (Nat × List Nat) := [(8, [1, 5, 7, 28, 29]), (16, [1, 5, 8, 9, 10, 11])]
noncomputable def used (n : Nat) : List Ent := [W_field_Root.ent n, W_field_Trace.ent n, W_field_Mul.ent n]
noncomputable def env (n : Nat) : Env := envOf te gl (used n) ⟨1, 70⟩ [] keep
def F8 (c : Int × Int × (List Int) × Int × Int) (s : Int × Int) : Fr := [(1, .bx [.pv (.int .i64 c.1), .pv (.int .i64 c.2.1), .sl (.ints .i64 c.2.2.1)]), (5, .pv (.int .i64 c.2.2.2.1)), (7, .pv (.int .i64 s.1)), (28, .pv (.int .i64 c.2.2.2.2)), (29, .pv (.int .i64 s.2))]
def d8 : Fr → Option ((Int × Int × (List Int) × Int × Int) × (Int × Int))
  | [(1, .bx [.pv (.int .i64 t1_0), .pv (.int .i64 t1_1), .sl (.ints .i64 t1_2)]), (5, .pv (.int .i64 t5)), (7, .pv (.int .i64 t7)), (28, .pv (.int .i64 t28)), (29, .pv (.int .i64 t29))] => some ((t1_0, t1_1, t1_2, t5, t28), (t7, t29))
  | _ => none
def st8 {ρ : Type} (n : Nat) (c : Int × Int × (List Int) × Int × Int) (Ko : Exit → Fr → Option ρ) (s : Int × Int) (nx : (Int × Int) → Option ρ) : Option ρ :=
  Gm.differ_Singer_s8 n c.1 c.2.1 c.2.2.1 c.2.2.2.1 c.2.2.2.2 s.1 s.2 (fun a0 a1 => nx (a0, a1)) (fun (y0 : Int) => Ko (.exit 1) [(1, .bx [.pv (.int .i64 c.1), .pv (.int .i64 c.2.1), .sl (.ints .i64 c.2.2.1)]), (5, .pv (.int .i64 c.2.2.2.1)), (7, .pv (.int .i64 y0))])
def F16 (c : Int × Int × (List Int) × Int × Int) (s : (List Int) × Int × Int) : Fr := [(1, .bx [.pv (.int .i64 c.1), .pv (.int .i64 c.2.1), .sl (.ints .i64 c.2.2.1)]), (5, .pv (.int .i64 c.2.2.2.1)), (8, .pv (.int .i64 c.2.2.2.2)), (9, .ow 3 (.ints .i64 s.1)), (10, .pv (.int .i64 s.2.1)), (11, .pv (.int .i64 s.2.2))]
def d16 : Fr → Option ((Int × Int × (List Int) × Int × Int) × ((List Int) × Int × Int))
  | [(1, .bx [.pv (.int .i64 t1_0), .pv (.int .i64 t1_1), .sl (.ints .i64 t1_2)]), (5, .pv (.int .i64 t5)), (8, .pv (.int .i64 t8)), (9, .ow 3 (.ints .i64 t9)), (10, .pv (.int .i64 t10)), (11, .pv (.int .i64 t11))] => some ((t1_0, t1_1, t1_2, t5, t8), (t9, t10, t11))
  | _ => none
def st16 {ρ : Type} (n : Nat) (c : Int × Int × (List Int) × Int × Int) (Ko : Exit → Fr → Option ρ) (s : (List Int) × Int × Int) (nx : ((List Int) × Int × Int) → Option ρ) : Option ρ :=
  Gm.differ_Singer_s16 n c.1 c.2.1 c.2.2.1 c.2.2.2.1 c.2.2.2.2 s.1 s.2.1 s.2.2 (fun a0 a1 a2 => nx (a0, a1, a2)) (fun (y0 : List Int) => Ko (.exit 3) [(8, .pv (.int .i64 c.2.2.2.2)), (9, .ow 3 (.ints .i64 y0))])
noncomputable def tab (ρ : Type) (n : Nat) : Tab ρ := { live := [(0, [1]), (1, [1, 5, 6]), (2, [1, 5, 6, 19]), (3, [2, 3, 4]), (4, [1, 5, 23]), (5, [2, 3, 4]), (6, [1, 5, 7]), (7, [1, 5, 7, 28, 29]), (8, [1, 5, 7, 28, 29, 30]), (9, [1, 5, 7, 28, 29]), (10, [1, 5, 7, 28, 29]), (11, [1, 5, 8]), (12, [1, 5, 8, 43]), (13, [2, 3, 4]), (14, [1, 5, 8, 9]), (15, [1, 5, 8, 9, 10, 11]), (16, [1, 5, 8, 9, 10, 11, 46]), (17, [1, 5, 8, 9, 10, 11]), (18, [1, 5, 8, 9, 10, 11, 12]), (19, [1, 5, 8, 9, 10, 11, 56]), (20, [1, 5, 8, 9, 10, 11]), (21, [1, 5, 8, 9, 10, 11]), (22, [2, 3, 4, 9])], xl := [(0, [1, 5]), (1, [1, 5, 7]), (2, [1, 5, 7, 28, 29]), (3, [8, 9]), (4, [1, 5, 8, 9, 10, 11])], rl := [2, 3, 4, 9], fz := [], jp := [], lp := [(8, fun A Ko => bnd (d8 A) fun p => iterM (st8 n p.1 Ko) n p.2), (16, fun A Ko => bnd (d16 A) fun p => iterM (st16 n p.1 Ko) n p.2)] }
noncomputable def b8 : Code := (cL (cB (c2 (c1 (c2 (c2 (c2 (c2 body))))))))
theorem d8_ok (A : Fr) (c : Int × Int × (List Int) × Int × Int) (s : Int × Int) (h : d8 A = some (c, s)) : A = F8 c s := by
  unfold d8 at h
  split at h
  · cases h; rfl
  · cases h
theorem step8 (ρ : Type) (n : Nat) (c : Int × Int × (List Int) × Int × Int) (Ko : Exit → Fr → Option ρ) (s : Int × Int) (nx : (Int × Int × (List Int) × Int × Int) → (Int × Int) → Option ρ) :
    AEO (env n) (answers ρ (used n) (used n)) (tab ρ n) b8 (F8 c s) (thenO (fun A => bnd (d8 (restr (keepOf (env n) b8) A)) fun p => nx p.1 p.2) Ko) = st8 n c Ko s (nx c) := by kernel_rfl
theorem lp8_ok {ρ : Type} (n : Nat) (hl : EntsOK Tryd.prog gl (used n)) : ∀ (A : Fr) (Ko : Exit → Fr → Option ρ) (r : ρ) (K : Exit → Fr → Prop), (bnd (d8 (restr (keepOf (env n) b8) A)) fun p => iterM (st8 n p.1 Ko) n p.2) = some r → (∀ e A, Ko e A = some r → K e A) → Gx.Sem Tryd.prog (env n) (.loop b8) A K :=
  fun A Ko r K h hk => loop_cod (P := Tryd.prog) (E := env n) (T := tab ρ n) (fun _ _ _ h => answers_ok h) F8 d8 (st8 n) d8_ok (show Cov _ (env n) (tab ρ n) b8 from ⟨trivial, ⟨⟨trivial, trivial⟩, ⟨trivial, trivial⟩⟩⟩) (fun c Ko s nx => step8 ρ n c Ko s nx) n A Ko r K h hk
noncomputable def b16 : Code := (cL (cB (c2 (c1 (c2 (c2 (c2 (c2 (c2 (c2 (c2 (c2 body))))))))))))
theorem d16_ok (A : Fr) (c : Int × Int × (List Int) × Int × Int) (s : (List Int) × Int × Int) (h : d16 A = some (c, s)) : A = F16 c s := by
  unfold d16 at h
  split at h
  · cases h; rfl
  · cases h
theorem step16 (ρ : Type) (n : Nat) (c : Int × Int × (List Int) × Int × Int) (Ko : Exit → Fr → Option ρ) (s : (List Int) × Int × Int) (nx : (Int × Int × (List Int) × Int × Int) → ((List Int) × Int × Int) → Option ρ) :
    AEO (env n) (answers ρ (used n) (used n)) (tab ρ n) b16 (F16 c s) (thenO (fun A => bnd (d16 (restr (keepOf (env n) b16) A)) fun p => nx p.1 p.2) Ko) = st16 n c Ko s (nx c) := by kernel_rfl
theorem lp16_ok {ρ : Type} (n : Nat) (hl : EntsOK Tryd.prog gl (used n)) : ∀ (A : Fr) (Ko : Exit → Fr → Option ρ) (r : ρ) (K : Exit → Fr → Prop), (bnd (d16 (restr (keepOf (env n) b16) A)) fun p => iterM (st16 n p.1 Ko) n p.2) = some r → (∀ e A, Ko e A = some r → K e A) → Gx.Sem Tryd.prog (env n) (.loop b16) A K :=
  fun A Ko r K h hk => loop_cod (P := Tryd.prog) (E := env n) (T := tab ρ n) (fun _ _ _ h => answers_ok h) F16 d16 (st16 n) d16_ok (show Cov _ (env n) (tab ρ n) b16 from ⟨⟨trivial, ⟨trivial, trivial⟩⟩, ⟨⟨⟨trivial, ⟨trivial, ⟨trivial, trivial⟩⟩⟩, trivial⟩, trivial⟩⟩) (fun c Ko s nx => step16 ρ n c Ko s nx) n A Ko r K h hk
def enc (a : Int × Int × (List Int)) : List AV := [.ag [.pv (.int .i64 a.1), .pv (.int .i64 a.2.1), .sl (.ints .i64 a.2.2)]]
def dec : List AV → Option (Int × Int × (List Int))
  | [.ag [.pv (.int .i64 toArray0_0), .pv (.int .i64 toArray0_1), .sl (.ints .i64 toArray0_2)]] => some (toArray0_0, toArray0_1, toArray0_2)
  | _ => none
def emb (b : Int × (List Int) × Int) : AV × List AV := (.tp [.pv (.int .i64 b.1), .sl (.ints .i64 b.2.1), .pv (.int .i64 b.2.2)], [])
def dr : AV → List AV → Option (Int × (List Int) × Int)
  | .tp [.pv (.int .i64 r0), .sl (.ints .i64 r1), .pv (.int .i64 r2)], [] => some (r0, r1, r2)
  | _, _ => none
theorem dec_ok (vs : List AV) (a : Int × Int × (List Int)) (h : dec vs = some a) : vs = enc a := by
  unfold dec at h
  split at h
  · cases h; rfl
  · cases h
theorem dr_ok (v : AV) (o : List AV) (b : Int × (List Int) × Int) (h : dr v o = some b) : emb b = (v, o) := by
  unfold dr at h
  split at h
  · cases h; rfl
  · cases h
noncomputable def ent (n : Nat) : Ent := { f := 9, ms := [.frz], α := Int × Int × (List Int), β := Int × (List Int) × Int, dec := dec, enc := enc, emb := emb, m := fun a => Gm.differ_Singer n a.1 a.2.1 a.2.2, hdec := dec_ok }
theorem run (n : Nat) (a : Int × Int × (List Int)) : AEO (env n) (answers (Int × (List Int) × Int) (used n) (used n)) (tab (Int × (List Int) × Int) n) body (frameOf (enc a) 0) (bodyO (env n) Tryd.f9.results.toList (enc a) dr) = (ent n).m a := by kernel_rfl
theorem ok (n : Nat) (hl : EntsOK Tryd.prog gl (used n)) : EntOK Tryd.prog gl (ent n) :=
  fnO_sound (P := Tryd.prog) (e := ent n) (fn := Tryd.f9) (body := body) (l := used n) (te := te) (gl := gl) (n := ⟨1, 70⟩) (cut := []) (keep := keep) (T := tab (Int × (List Int) × Int) n) (dr := dr) Tryd.func9 (by kernel_rfl) (by kernel_rfl) te_ok (by kernel_rfl) (by kernel_rfl) hl (show Cov _ (env n) (tab (Int × (List Int) × Int) n) body from ⟨trivial, ⟨trivial, ⟨⟨trivial, ⟨⟨trivial, trivial⟩, ⟨trivial, ⟨⟨trivial, trivial⟩, trivial⟩⟩⟩⟩, ⟨trivial, ⟨⟨trivial, lp8_ok n hl⟩, ⟨trivial, ⟨⟨trivial, ⟨⟨trivial, trivial⟩, trivial⟩⟩, ⟨trivial, ⟨⟨trivial, lp16_ok n hl⟩, ⟨trivial, trivial⟩⟩⟩⟩⟩⟩⟩⟩⟩⟩) dr_ok (fun a => ⟨rfl, rfl⟩) (run n)
theorem all_ok (n : Nat) : EntOK Tryd.prog gl (ent n) := ok n ⟨W_field_Root.all_ok n, W_field_Trace.all_ok n, W_field_Mul.all_ok n, trivial⟩
end W_differ_Singer
namespace W_differ_Check_1
noncomputable def body : Code := Tryd.f84.body.getD .skip
def keep : List (Nat × List Nat) := []
noncomputable def used (_n : Nat) : List Ent := []
noncomputable def env (n : Nat) : Env := envOf te gl (used n) ⟨3, 11⟩ [] keep
noncomputable def tab (ρ : Type) (_n : Nat) : Tab ρ := { live := [(0, [0, 1]), (1, [3])], xl := [], rl := [3], fz := [], jp := [], lp := [] }
def enc (a : Int × Int) : List AV := [.pv (.int .i64 a.1), .lb [.pv (.int .i64 a.2)] 0]
def dec : List AV → Option (Int × Int)
  | [.pv (.int .i64 n_0), .lb [.pv (.int .i64 t1)] 0] => some (n_0, t1)
  | _ => none
def emb (b : Bool) : AV × List AV := (.pv (.bool b), [])
def dr : AV → List AV → Option (Bool)
  | .pv (.bool r0), [] => some r0
  | _, _ => none
theorem dec_ok (vs : List AV) (a : Int × Int) (h : dec vs = some a) : vs = enc a := by
  unfold dec at h
  split at h
  · cases h; rfl
  · cases h
theorem dr_ok (v : AV) (o : List AV) (b : Bool) (h : dr v o = some b) : emb b = (v, o) := by
  unfold dr at h
  split at h
  · cases h; rfl
  · cases h
noncomputable def ent (n : Nat) : Ent := { f := 84, ms := [.lend], α := Int × Int, β := Bool, dec := dec, enc := enc, emb := emb, m := fun a => Gm.differ_Check_1 n a.1 a.2, hdec := dec_ok }
theorem run (n : Nat) (a : Int × Int) : AEO (env n) (answers (Bool) (used n) (used n)) (tab (Bool) n) body (frameOf (enc a) 0) (bodyO (env n) Tryd.f84.results.toList (enc a) dr) = (ent n).m a := by kernel_rfl
theorem ok (n : Nat) (hl : EntsOK Tryd.prog gl (used n)) : EntOK Tryd.prog gl (ent n) :=
  fnO_sound (P := Tryd.prog) (e := ent n) (fn := Tryd.f84) (body := body) (l := used n) (te := te) (gl := gl) (n := ⟨3, 11⟩) (cut := []) (keep := keep) (T := tab (Bool) n) (dr := dr) Tryd.func84 (by kernel_rfl) (by kernel_rfl) te_ok (by kernel_rfl) (by kernel_rfl) hl (show Cov _ (env n) (tab (Bool) n) body from ⟨trivial, ⟨trivial, trivial⟩⟩) dr_ok (fun a => ⟨rfl, rfl⟩) (run n)
theorem all_ok (n : Nat) : EntOK Tryd.prog gl (ent n) := ok n trivial
end W_differ_Check_1
namespace W_slices_IndexFunc_intint__differ_Check_1
noncomputable def body : Code := Tryd.f100.body.getD .skip
def keep : List (Nat × List Nat) := [(2, [0, 1, 7, 8])]
noncomputable def used (n : Nat) : List Ent := [W_differ_Check_1.ent n]
noncomputable def env (n : Nat) : Env := envOf te gl (used n) ⟨4, 19⟩ [] keep
def F2 (c : (List Int) × Int × Int) (s : Int) : Fr := [(0, .ls (.ints .i64 c.1)), (1, .fn 84 [.lb [.pv (.int .i64 c.2.1)] 0]), (7, .pv (.int .i64 c.2.2)), (8, .pv (.int .i64 s))]
def d2 : Fr → Option (((List Int) × Int × Int) × (Int))
  | [(0, .ls (.ints .i64 s_0)), (1, .fn 84 [.lb [.pv (.int .i64 f1)] 0]), (7, .pv (.int .i64 t7)), (8, .pv (.int .i64 t8))] => some ((s_0, f1, t7), t8)
  | _ => none
def st2 {ρ : Type} (n : Nat) (c : (List Int) × Int × Int) (Ko : Exit → Fr → Option ρ) (s : Int) (nx : Int → Option ρ) : Option ρ :=
  Gm.slices_IndexFunc_intint__differ_Check_1_s2 n c.1 c.2.1 c.2.2 s nx (fun (y0 : Int) => Ko .ret [(4, .pv (.int .i64 y0))]) (Ko (.exit 0) [])
noncomputable def tab (ρ : Type) (n : Nat) : Tab ρ := { live := [(0, [0, 1]), (1, [0, 1, 7, 8]), (2, [0, 1, 7, 8, 9]), (3, [0, 1, 5, 7, 8]), (4, [0, 1, 5, 7, 8, 16]), (5, [4]), (6, [0, 1, 7, 8]), (7, [4])], xl := [(0, []), (1, [0, 1, 7, 8])], rl := [4], fz := [], jp := [], lp := [(2, fun A Ko => bnd (d2 A) fun p => iterM (st2 n p.1 Ko) n p.2)] }
noncomputable def b2 : Code := (cL (cB (c2 (c1 (c2 body)))))
theorem d2_ok (A : Fr) (c : (List Int) × Int × Int) (s : Int) (h : d2 A = some (c, s)) : A = F2 c s := by
  unfold d2 at h
  split at h
  · cases h; rfl
  · cases h
theorem step2 (ρ : Type) (n : Nat) (c : (List Int) × Int × Int) (Ko : Exit → Fr → Option ρ) (s : Int) (nx : ((List Int) × Int × Int) → (Int) → Option ρ) :
    AEO (env n) (answers ρ (used n) (used n)) (tab ρ n) b2 (F2 c s) (thenO (fun A => bnd (d2 (restr (keepOf (env n) b2) A)) fun p => nx p.1 p.2) Ko) = st2 n c Ko s (nx c) := by kernel_rfl
theorem lp2_ok {ρ : Type} (n : Nat) (hl : EntsOK Tryd.prog gl (used n)) : ∀ (A : Fr) (Ko : Exit → Fr → Option ρ) (r : ρ) (K : Exit → Fr → Prop), (bnd (d2 (restr (keepOf (env n) b2) A)) fun p => iterM (st2 n p.1 Ko) n p.2) = some r → (∀ e A, Ko e A = some r → K e A) → Gx.Sem Tryd.prog (env n) (.loop b2) A K :=
  fun A Ko r K h hk => loop_cod (P := Tryd.prog) (E := env n) (T := tab ρ n) (fun _ _ _ h => answers_ok h) F2 d2 (st2 n) d2_ok (show Cov _ (env n) (tab ρ n) b2 from ⟨trivial, ⟨⟨trivial, trivial⟩, ⟨⟨trivial, ⟨trivial, ⟨⟨trivial, trivial⟩, trivial⟩⟩⟩, trivial⟩⟩⟩) (fun c Ko s nx => step2 ρ n c Ko s nx) n A Ko r K h hk
def enc (a : (List Int) × Int) : List AV := [.ls (.ints .i64 a.1), .fn 84 [.lb [.pv (.int .i64 a.2)] 0]]
def dec : List AV → Option ((List Int) × Int)
  | [.ls (.ints .i64 s_0), .fn 84 [.lb [.pv (.int .i64 f1)] 0]] => some (s_0, f1)
  | _ => none
def emb (b : Int) : AV × List AV := (.pv (.int .i64 b), [])
def dr : AV → List AV → Option (Int)
  | .pv (.int .i64 r0), [] => some r0
  | _, _ => none
theorem dec_ok (vs : List AV) (a : (List Int) × Int) (h : dec vs = some a) : vs = enc a := by
  unfold dec at h
  split at h
  · cases h; rfl
  · cases h
theorem dr_ok (v : AV) (o : List AV) (b : Int) (h : dr v o = some b) : emb b = (v, o) := by
  unfold dr at h
  split at h
  · cases h; rfl
  · cases h
noncomputable def ent (n : Nat) : Ent := { f := 100, ms := [.lend, .lend], α := (List Int) × Int, β := Int, dec := dec, enc := enc, emb := emb, m := fun a => Gm.slices_IndexFunc_intint__differ_Check_1 n a.1 a.2, hdec := dec_ok }
theorem run (n : Nat) (a : (List Int) × Int) : AEO (env n) (answers (Int) (used n) (used n)) (tab (Int) n) body (frameOf (enc a) 0) (bodyO (env n) Tryd.f100.results.toList (enc a) dr) = (ent n).m a := by kernel_rfl
theorem ok (n : Nat) (hl : EntsOK Tryd.prog gl (used n)) : EntOK Tryd.prog gl (ent n) :=
  fnO_sound (P := Tryd.prog) (e := ent n) (fn := Tryd.f100) (body := body) (l := used n) (te := te) (gl := gl) (n := ⟨4, 19⟩) (cut := []) (keep := keep) (T := tab (Int) n) (dr := dr) Tryd.func100 (by kernel_rfl) (by kernel_rfl) te_ok (by kernel_rfl) (by kernel_rfl) hl (show Cov _ (env n) (tab (Int) n) body from ⟨trivial, ⟨⟨trivial, lp2_ok n hl⟩, ⟨trivial, trivial⟩⟩⟩) dr_ok (fun a => ⟨rfl, rfl⟩) (run n)
theorem all_ok (n : Nat) : EntOK Tryd.prog gl (ent n) := ok n ⟨W_differ_Check_1.all_ok n, trivial⟩
end W_slices_IndexFunc_intint__differ_Check_1
namespace W_slices_ContainsFunc_intint__differ_Check_1
noncomputable def body : Code := Tryd.f55.body.getD .skip
def keep : List (Nat × List Nat) := []
noncomputable def used (n : Nat) : List Ent := [W_slices_IndexFunc_intint__differ_Check_1.ent n]
noncomputable def env (n : Nat) : Env := envOf te gl (used n) ⟨4, 9⟩ [] keep
noncomputable def tab (ρ : Type) (_n : Nat) : Tab ρ := { live := [(0, [0, 1]), (1, [4])], xl := [], rl := [4], fz := [], jp := [], lp := [] }
def enc (a : (List Int) × Int) : List AV := [.ls (.ints .i64 a.1), .fn 84 [.lb [.pv (.int .i64 a.2)] 0]]
def dec : List AV → Option ((List Int) × Int)
  | [.ls (.ints .i64 s_0), .fn 84 [.lb [.pv (.int .i64 f1)] 0]] => some (s_0, f1)
  | _ => none
def emb (b : Bool) : AV × List AV := (.pv (.bool b), [])
def dr : AV → List AV → Option (Bool)
  | .pv (.bool r0), [] => some r0
  | _, _ => none
theorem dec_ok (vs : List AV) (a : (List Int) × Int) (h : dec vs = some a) : vs = enc a := by
  unfold dec at h
  split at h
  · cases h; rfl
  · cases h
theorem dr_ok (v : AV) (o : List AV) (b : Bool) (h : dr v o = some b) : emb b = (v, o) := by
  unfold dr at h
  split at h
  · cases h; rfl
  · cases h
noncomputable def ent (n : Nat) : Ent := { f := 55, ms := [.lend, .lend], α := (List Int) × Int, β := Bool, dec := dec, enc := enc, emb := emb, m := fun a => Gm.slices_ContainsFunc_intint__differ_Check_1 n a.1 a.2, hdec := dec_ok }
theorem run (n : Nat) (a : (List Int) × Int) : AEO (env n) (answers (Bool) (used n) (used n)) (tab (Bool) n) body (frameOf (enc a) 0) (bodyO (env n) Tryd.f55.results.toList (enc a) dr) = (ent n).m a := by kernel_rfl
theorem ok (n : Nat) (hl : EntsOK Tryd.prog gl (used n)) : EntOK Tryd.prog gl (ent n) :=
  fnO_sound (P := Tryd.prog) (e := ent n) (fn := Tryd.f55) (body := body) (l := used n) (te := te) (gl := gl) (n := ⟨4, 9⟩) (cut := []) (keep := keep) (T := tab (Bool) n) (dr := dr) Tryd.func55 (by kernel_rfl) (by kernel_rfl) te_ok (by kernel_rfl) (by kernel_rfl) hl (show Cov _ (env n) (tab (Bool) n) body from ⟨trivial, ⟨trivial, trivial⟩⟩) dr_ok (fun a => ⟨rfl, rfl⟩) (run n)
theorem all_ok (n : Nat) : EntOK Tryd.prog gl (ent n) := ok n ⟨W_slices_IndexFunc_intint__differ_Check_1.all_ok n, trivial⟩
end W_slices_ContainsFunc_intint__differ_Check_1
namespace W_differ_Check
noncomputable def body : Code := Tryd.f38.body.getD .skip
def keep : List (Nat × List Nat) := [(4, [1, 5])]
noncomputable def used (n : Nat) : List Ent := [W_slices_ContainsFunc_intint__differ_Check_1.ent n]
noncomputable def env (n : Nat) : Env := envOf te gl (used n) ⟨2, 33⟩ [] keep
def F4 (c : List Int) (s : Int) : Fr := [(1, .ls (.ints .i64 c)), (5, .pv (.int .i64 s))]
def d4 : Fr → Option ((List Int) × (Int))
  | [(1, .ls (.ints .i64 set1)), (5, .pv (.int .i64 i5))] => some (set1, i5)
  | _ => none
def st4 {ρ : Type} (n : Nat) (c : List Int) (Ko : Exit → Fr → Option ρ) (s : Int) (nx : Int → Option ρ) : Option ρ :=
  Gm.differ_Check_s4 n c s nx (Ko .ret [(4, .pv (.int .i64 2))]) (Ko (.exit 0) [])
noncomputable def tab (ρ : Type) (n : Nat) : Tab ρ := { live := [(0, [1, 2]), (1, [1, 16]), (2, [4]), (3, [1, 5]), (4, [1, 5, 20]), (5, [1, 5]), (6, [1, 5, 32]), (7, [4]), (8, [4])], xl := [(0, []), (1, [1, 5])], rl := [4], fz := [], jp := [], lp := [(4, fun A Ko => bnd (d4 A) fun p => iterM (st4 n p.1 Ko) n p.2)] }
noncomputable def b4 : Code := (cL (cB (c2 (c1 (c2 (c2 body))))))
theorem d4_ok (A : Fr) (c : List Int) (s : Int) (h : d4 A = some (c, s)) : A = F4 c s := by
  unfold d4 at h
  split at h
  · cases h; rfl
  · cases h
theorem step4 (ρ : Type) (n : Nat) (c : List Int) (Ko : Exit → Fr → Option ρ) (s : Int) (nx : (List Int) → (Int) → Option ρ) :
    AEO (env n) (answers ρ (used n) (used n)) (tab ρ n) b4 (F4 c s) (thenO (fun A => bnd (d4 (restr (keepOf (env n) b4) A)) fun p => nx p.1 p.2) Ko) = st4 n c Ko s (nx c) := by kernel_rfl
theorem lp4_ok {ρ : Type} (n : Nat) (hl : EntsOK Tryd.prog gl (used n)) : ∀ (A : Fr) (Ko : Exit → Fr → Option ρ) (r : ρ) (K : Exit → Fr → Prop), (bnd (d4 (restr (keepOf (env n) b4) A)) fun p => iterM (st4 n p.1 Ko) n p.2) = some r → (∀ e A, Ko e A = some r → K e A) → Gx.Sem Tryd.prog (env n) (.loop b4) A K :=
  fun A Ko r K h hk => loop_cod (P := Tryd.prog) (E := env n) (T := tab ρ n) (fun _ _ _ h => answers_ok h) F4 d4 (st4 n) d4_ok (show Cov _ (env n) (tab ρ n) b4 from ⟨⟨trivial, ⟨trivial, trivial⟩⟩, ⟨⟨trivial, ⟨⟨trivial, trivial⟩, trivial⟩⟩, trivial⟩⟩) (fun c Ko s nx => step4 ρ n c Ko s nx) n A Ko r K h hk
def enc (a : Int × (List Int)) : List AV := [.pv (.int .i64 a.1), .ls (.ints .i64 a.2)]
def dec : List AV → Option (Int × (List Int))
  | [.pv (.int .i64 v0), .ls (.ints .i64 set1)] => some (v0, set1)
  | _ => none
def emb (b : Int) : AV × List AV := (.pv (.int .i64 b), [])
def dr : AV → List AV → Option (Int)
  | .pv (.int .i64 r0), [] => some r0
  | _, _ => none
theorem dec_ok (vs : List AV) (a : Int × (List Int)) (h : dec vs = some a) : vs = enc a := by
  unfold dec at h
  split at h
  · cases h; rfl
  · cases h
theorem dr_ok (v : AV) (o : List AV) (b : Int) (h : dr v o = some b) : emb b = (v, o) := by
  unfold dr at h
  split at h
  · cases h; rfl
  · cases h
noncomputable def ent (n : Nat) : Ent := { f := 38, ms := [.lend, .lend], α := Int × (List Int), β := Int, dec := dec, enc := enc, emb := emb, m := fun a => Gm.differ_Check n a.1 a.2, hdec := dec_ok }
theorem run (n : Nat) (a : Int × (List Int)) : AEO (env n) (answers (Int) (used n) (used n)) (tab (Int) n) body (frameOf (enc a) 0) (bodyO (env n) Tryd.f38.results.toList (enc a) dr) = (ent n).m a := by kernel_rfl
theorem ok (n : Nat) (hl : EntsOK Tryd.prog gl (used n)) : EntOK Tryd.prog gl (ent n) :=
  fnO_sound (P := Tryd.prog) (e := ent n) (fn := Tryd.f38) (body := body) (l := used n) (te := te) (gl := gl) (n := ⟨2, 33⟩) (cut := []) (keep := keep) (T := tab (Int) n) (dr := dr) Tryd.func38 (by kernel_rfl) (by kernel_rfl) te_ok (by kernel_rfl) (by kernel_rfl) hl (show Cov _ (env n) (tab (Int) n) body from ⟨trivial, ⟨⟨trivial, ⟨⟨trivial, trivial⟩, trivial⟩⟩, ⟨⟨trivial, lp4_ok n hl⟩, ⟨trivial, trivial⟩⟩⟩⟩) dr_ok (fun a => ⟨rfl, rfl⟩) (run n)
theorem all_ok (n : Nat) : EntOK Tryd.prog gl (ent n) := ok n ⟨W_slices_ContainsFunc_intint__differ_Check_1.all_ok n, trivial⟩
end W_differ_Check
namespace W_slices_Sort
def ent (_n : Nat) : Ent := sortIE 85 3
theorem all_ok (n : Nat) : EntOK Tryd.prog gl (ent n) := sortI_ok (by kernel_rfl) (fun blk off cap zs w h1 h2 h3 => Tryd.slices_Sort_int blk off cap zs w h1 h2 h3) (fun p cap w => Any.slices_Sort_int_none Tryd.lays189 p cap w)
end W_slices_Sort
namespace W_differ_changed
noncomputable def body : Code := Tryd.f39.body.getD .skip
def keep : List (Nat × List Nat) := [(3, [0, 2, 3, 9, 12, 13, 14])]
noncomputable def used (n : Nat) : List Ent := [W_slices_Sort.ent n]
noncomputable def env (n : Nat) : Env := envOf te gl (used n) ⟨8, 32⟩ [] keep
def F3 (c : Int × Int × Int × (List Int) × Int) (s : (List Int) × Int) : Fr := [(0, .pv (.int .i64 c.1)), (2, .pv (.int .i64 c.2.1)), (3, .pv (.int .i64 c.2.2.1)), (9, .ow 3 (.ints .i64 s.1)), (12, .ls (.ints .i64 c.2.2.2.1)), (13, .pv (.int .i64 c.2.2.2.2)), (14, .pv (.int .i64 s.2))]
def d3 : Fr → Option ((Int × Int × Int × (List Int) × Int) × ((List Int) × Int))
  | [(0, .pv (.int .i64 v0)), (2, .pv (.int .i64 times2)), (3, .pv (.int .i64 more3)), (9, .ow 3 (.ints .i64 out9)), (12, .ls (.ints .i64 t12)), (13, .pv (.int .i64 t13)), (14, .pv (.int .i64 t14))] => some ((v0, times2, more3, t12, t13), (out9, t14))
  | _ => none
def st3 {ρ : Type} (n : Nat) (c : Int × Int × Int × (List Int) × Int) (Ko : Exit → Fr → Option ρ) (s : (List Int) × Int) (nx : ((List Int) × Int) → Option ρ) : Option ρ :=
  Gm.differ_changed_s3 n c.1 c.2.1 c.2.2.1 c.2.2.2.1 c.2.2.2.2 s.1 s.2 (fun a0 a1 => nx (a0, a1)) (fun (y0 : List Int) => Ko (.exit 0) [(9, .ow 3 (.ints .i64 y0))])
noncomputable def tab (ρ : Type) (n : Nat) : Tab ρ := { live := [(0, [0, 1, 2, 3]), (1, [0, 1, 2, 3, 9]), (2, [0, 2, 3, 9, 12, 13, 14]), (3, [0, 2, 3, 9, 12, 13, 14, 15]), (4, [0, 2, 3, 9, 11, 12, 13, 14]), (5, [0, 2, 3, 9, 12, 13, 14]), (6, [0, 2, 3, 9, 12, 13, 14]), (7, [9]), (8, [8, 9])], xl := [(0, [9]), (1, [0, 2, 3, 9, 12, 13, 14])], rl := [8, 9], fz := [], jp := [], lp := [(3, fun A Ko => bnd (d3 A) fun p => iterM (st3 n p.1 Ko) n p.2)] }
noncomputable def b3 : Code := (cL (cB (c2 (c1 (c2 (c2 body))))))
theorem d3_ok (A : Fr) (c : Int × Int × Int × (List Int) × Int) (s : (List Int) × Int) (h : d3 A = some (c, s)) : A = F3 c s := by
  unfold d3 at h
  split at h
  · cases h; rfl
  · cases h
theorem step3 (ρ : Type) (n : Nat) (c : Int × Int × Int × (List Int) × Int) (Ko : Exit → Fr → Option ρ) (s : (List Int) × Int) (nx : (Int × Int × Int × (List Int) × Int) → ((List Int) × Int) → Option ρ) :
    AEO (env n) (answers ρ (used n) (used n)) (tab ρ n) b3 (F3 c s) (thenO (fun A => bnd (d3 (restr (keepOf (env n) b3) A)) fun p => nx p.1 p.2) Ko) = st3 n c Ko s (nx c) := by kernel_rfl
theorem lp3_ok {ρ : Type} (n : Nat) (hl : EntsOK Tryd.prog gl (used n)) : ∀ (A : Fr) (Ko : Exit → Fr → Option ρ) (r : ρ) (K : Exit → Fr → Prop), (bnd (d3 (restr (keepOf (env n) b3) A)) fun p => iterM (st3 n p.1 Ko) n p.2) = some r → (∀ e A, Ko e A = some r → K e A) → Gx.Sem Tryd.prog (env n) (.loop b3) A K :=
  fun A Ko r K h hk => loop_cod (P := Tryd.prog) (E := env n) (T := tab ρ n) (fun _ _ _ h => answers_ok h) F3 d3 (st3 n) d3_ok (show Cov _ (env n) (tab ρ n) b3 from ⟨trivial, ⟨⟨trivial, trivial⟩, ⟨⟨trivial, trivial⟩, trivial⟩⟩⟩) (fun c Ko s nx => step3 ρ n c Ko s nx) n A Ko r K h hk
def enc (a : Int × (List Int) × Int × Int) : List AV := [.pv (.int .i64 a.1), .ls (.ints .i64 a.2.1), .pv (.int .i64 a.2.2.1), .pv (.int .i64 a.2.2.2)]
def dec : List AV → Option (Int × (List Int) × Int × Int)
  | [.pv (.int .i64 v0), .ls (.ints .i64 set1), .pv (.int .i64 times2), .pv (.int .i64 more3)] => some (v0, set1, times2, more3)
  | _ => none
def emb (b : List Int) : AV × List AV := (.ow 3 (.ints .i64 b), [])
def dr : AV → List AV → Option (List Int)
  | .ow 3 (.ints .i64 r0), [] => some r0
  | _, _ => none
theorem dec_ok (vs : List AV) (a : Int × (List Int) × Int × Int) (h : dec vs = some a) : vs = enc a := by
  unfold dec at h
  split at h
  · cases h; rfl
  · cases h
theorem dr_ok (v : AV) (o : List AV) (b : List Int) (h : dr v o = some b) : emb b = (v, o) := by
  unfold dr at h
  split at h
  · cases h; rfl
  · cases h
noncomputable def ent (n : Nat) : Ent := { f := 39, ms := [.lend, .lend, .lend, .lend], α := Int × (List Int) × Int × Int, β := List Int, dec := dec, enc := enc, emb := emb, m := fun a => Gm.differ_changed n a.1 a.2.1 a.2.2.1 a.2.2.2, hdec := dec_ok }
theorem run (n : Nat) (a : Int × (List Int) × Int × Int) : AEO (env n) (answers (List Int) (used n) (used n)) (tab (List Int) n) body (frameOf (enc a) 0) (bodyO (env n) Tryd.f39.results.toList (enc a) dr) = (ent n).m a := by kernel_rfl
theorem ok (n : Nat) (hl : EntsOK Tryd.prog gl (used n)) : EntOK Tryd.prog gl (ent n) :=
  fnO_sound (P := Tryd.prog) (e := ent n) (fn := Tryd.f39) (body := body) (l := used n) (te := te) (gl := gl) (n := ⟨8, 32⟩) (cut := []) (keep := keep) (T := tab (List Int) n) (dr := dr) Tryd.func39 (by kernel_rfl) (by kernel_rfl) te_ok (by kernel_rfl) (by kernel_rfl) hl (show Cov _ (env n) (tab (List Int) n) body from ⟨trivial, ⟨trivial, ⟨⟨trivial, lp3_ok n hl⟩, ⟨trivial, ⟨trivial, trivial⟩⟩⟩⟩⟩) dr_ok (fun a => ⟨rfl, rfl⟩) (run n)
theorem all_ok (n : Nat) : EntOK Tryd.prog gl (ent n) := ok n ⟨W_slices_Sort.all_ok n, trivial⟩
end W_differ_changed
namespace W_differ_Develop
noncomputable def body : Code := Tryd.f11.body.getD .skip
def keep : List (Nat × List Nat) := [(8, [0, 1, 4, 7, 21, 22])]
noncomputable def used (n : Nat) : List Ent := [W_differ_Check.ent n, W_differ_changed.ent n]
noncomputable def env (n : Nat) : Env := envOf te gl (used n) ⟨4, 36⟩ [] keep
def Fg10 (c : Int × Int × (List Int) × Int × (List (List Int)) × Int × (List (List Int)) × Int × Int) : Fr := [(8, .pv (.int .i64 c.1)), (0, .pv (.int .i64 c.2.1)), (1, .ls (.ints .i64 c.2.2.1)), (4, .bx [.pv (.int .i64 c.2.2.2.1), .ow 22 (.rows c.2.2.2.2.1)]), (7, .bx [.pv (.int .i64 c.2.2.2.2.2.1), .ow 22 (.rows c.2.2.2.2.2.2.1)]), (21, .pv (.int .i64 c.2.2.2.2.2.2.2.1)), (22, .pv (.int .i64 c.2.2.2.2.2.2.2.2))]
def dg10 : Fr → Option (Int × Int × (List Int) × Int × (List (List Int)) × Int × (List (List Int)) × Int × Int)
  | [(8, .pv (.int .i64 i8)), (0, .pv (.int .i64 v0)), (1, .ls (.ints .i64 set1)), (4, .bx [.pv (.int .i64 t4_0), .ow 22 (.rows t4_1)]), (7, .bx [.pv (.int .i64 out7_0), .ow 22 (.rows out7_1)]), (21, .pv (.int .i64 t21)), (22, .pv (.int .i64 t22))] => some (i8, v0, set1, t4_0, t4_1, out7_0, out7_1, t21, t22)
  | _ => none
def gg10 {ρ : Type} (n : Nat) (c : Int × Int × (List Int) × Int × (List (List Int)) × Int × (List (List Int)) × Int × Int) (Ko : Fr → Option ρ) : Option ρ :=
  Gm.differ_Develop_g10 n c.1 c.2.1 c.2.2.1 c.2.2.2.1 c.2.2.2.2.1 c.2.2.2.2.2.1 c.2.2.2.2.2.2.1 c.2.2.2.2.2.2.2.1 c.2.2.2.2.2.2.2.2 (fun (y0 : List (List Int)) => Ko [(0, .pv (.int .i64 c.2.1)), (1, .ls (.ints .i64 c.2.2.1)), (4, .bx [.pv (.int .i64 c.2.2.2.1), .ow 22 (.rows c.2.2.2.2.1)]), (7, .bx [.pv (.int .i64 c.2.2.2.2.2.1), .ow 22 (.rows y0)]), (21, .pv (.int .i64 c.2.2.2.2.2.2.2.1)), (22, .pv (.int .i64 c.2.2.2.2.2.2.2.2))])
noncomputable def og10 : Array Oper := match (c2 (cB (c1 (c2 (c2 (cL (cB (c2 (c1 (c2 (c2 (c2 (c2 body))))))))))))) with | .region _ ops _ => ops | _ => #[]
theorem dg10_ok (A : Fr) (c : Int × Int × (List Int) × Int × (List (List Int)) × Int × (List (List Int)) × Int × Int) (h : dg10 A = some c) : A = Fg10 c := by
  unfold dg10 at h
  split at h
  · cases h; rfl
  · cases h
def F8 (c : Int × (List Int) × Int × (List (List Int)) × Int × Int) (s : (List (List Int)) × Int) : Fr := [(0, .pv (.int .i64 c.1)), (1, .ls (.ints .i64 c.2.1)), (4, .bx [.pv (.int .i64 c.2.2.1), .ow 22 (.rows c.2.2.2.1)]), (7, .bx [.pv (.int .i64 c.2.2.2.2.1), .ow 22 (.rows s.1)]), (21, .pv (.int .i64 c.2.2.2.2.2)), (22, .pv (.int .i64 s.2))]
def d8 : Fr → Option ((Int × (List Int) × Int × (List (List Int)) × Int × Int) × ((List (List Int)) × Int))
  | [(0, .pv (.int .i64 v0)), (1, .ls (.ints .i64 set1)), (4, .bx [.pv (.int .i64 t4_0), .ow 22 (.rows t4_1)]), (7, .bx [.pv (.int .i64 out7_0), .ow 22 (.rows out7_1)]), (21, .pv (.int .i64 t21)), (22, .pv (.int .i64 t22))] => some ((v0, set1, t4_0, t4_1, out7_0, t21), (out7_1, t22))
  | _ => none
def st8 {ρ : Type} (n : Nat) (c : Int × (List Int) × Int × (List (List Int)) × Int × Int) (Ko : Exit → Fr → Option ρ) (s : (List (List Int)) × Int) (nx : ((List (List Int)) × Int) → Option ρ) : Option ρ :=
  Gm.differ_Develop_s8 n c.1 c.2.1 c.2.2.1 c.2.2.2.1 c.2.2.2.2.1 c.2.2.2.2.2 s.1 s.2 (fun a0 a1 => nx (a0, a1)) (fun (y0 : List (List Int)) => Ko (.exit 0) [(4, .bx [.pv (.int .i64 c.2.2.1), .ow 22 (.rows c.2.2.2.1)]), (7, .bx [.pv (.int .i64 c.2.2.2.2.1), .ow 22 (.rows y0)])])
noncomputable def tab (ρ : Type) (n : Nat) : Tab ρ := { live := [(0, [0, 1, 4]), (1, [0, 1, 4, 6]), (2, [0, 1, 4, 6, 13]), (3, [4, 5]), (4, [0, 1, 4, 17]), (5, [4, 5]), (6, [0, 1, 4, 7]), (7, [0, 1, 4, 7, 21, 22]), (8, [0, 1, 4, 7, 21, 22, 23]), (9, [0, 1, 4, 7, 8, 21, 22]), (10, [0, 1, 4, 7, 21, 22]), (11, [0, 1, 4, 7, 21, 22]), (12, [4, 5])], xl := [(0, [4, 7]), (1, [0, 1, 4, 7, 21, 22])], rl := [4, 5], fz := [], jp := [], lp := [(8, fun A Ko => bnd (d8 A) fun p => iterM (st8 n p.1 Ko) n p.2)], rg := [(10, fun A Ko => bnd (dg10 A) fun c => gg10 n c Ko)] }
theorem rg10_ok {ρ : Type} (n : Nat) (hl : EntsOK Tryd.prog gl (used n)) : ∀ (A : Fr) (Ko : Fr → Option ρ) (r : ρ) (K : Exit → Fr → Prop), (bnd (dg10 A) fun c => gg10 n c Ko) = some r → (∀ A, Ko A = some r → K .normal A) → Gx.Sem Tryd.prog (env n) (.region 10 og10 true) A K :=
  region_cod (P := Tryd.prog) (E := env n) (orc := answers ρ (used n) (used n)) (fun _ _ _ h => answers_ok h) Fg10 dg10 (gg10 n) [0, 1, 4, 7, 21, 22] [1, 5, 6] [[0, 1, 2, 3, 4, 5, 6, 7, 8, 9], [0, 2, 3, 4, 5, 1, 6, 7, 8, 9], [0, 2, 3, 4, 5, 6, 1, 7, 8, 9]] (by kernel_rfl) ⟨by kernel_rfl, by kernel_rfl⟩ (by kernel_rfl) dg10_ok (fun c Ko => by kernel_rfl)
noncomputable def b8 : Code := (cL (cB (c2 (c1 (c2 (c2 (c2 (c2 body))))))))
theorem d8_ok (A : Fr) (c : Int × (List Int) × Int × (List (List Int)) × Int × Int) (s : (List (List Int)) × Int) (h : d8 A = some (c, s)) : A = F8 c s := by
  unfold d8 at h
  split at h
  · cases h; rfl
  · cases h
theorem step8 (ρ : Type) (n : Nat) (c : Int × (List Int) × Int × (List (List Int)) × Int × Int) (Ko : Exit → Fr → Option ρ) (s : (List (List Int)) × Int) (nx : (Int × (List Int) × Int × (List (List Int)) × Int × Int) → ((List (List Int)) × Int) → Option ρ) :
    AEO (env n) (answers ρ (used n) (used n)) (tab ρ n) b8 (F8 c s) (thenO (fun A => bnd (d8 (restr (keepOf (env n) b8) A)) fun p => nx p.1 p.2) Ko) = st8 n c Ko s (nx c) := by kernel_rfl
theorem lp8_ok {ρ : Type} (n : Nat) (hl : EntsOK Tryd.prog gl (used n)) : ∀ (A : Fr) (Ko : Exit → Fr → Option ρ) (r : ρ) (K : Exit → Fr → Prop), (bnd (d8 (restr (keepOf (env n) b8) A)) fun p => iterM (st8 n p.1 Ko) n p.2) = some r → (∀ e A, Ko e A = some r → K e A) → Gx.Sem Tryd.prog (env n) (.loop b8) A K :=
  fun A Ko r K h hk => loop_cod (P := Tryd.prog) (E := env n) (T := tab ρ n) (fun _ _ _ h => answers_ok h) F8 d8 (st8 n) d8_ok (show Cov _ (env n) (tab ρ n) b8 from ⟨trivial, ⟨⟨trivial, trivial⟩, ⟨⟨trivial, rg10_ok n hl⟩, trivial⟩⟩⟩) (fun c Ko s nx => step8 ρ n c Ko s nx) n A Ko r K h hk
def enc (a : Int × (List Int)) : List AV := [.pv (.int .i64 a.1), .ls (.ints .i64 a.2)]
def dec : List AV → Option (Int × (List Int))
  | [.pv (.int .i64 v0), .ls (.ints .i64 set1)] => some (v0, set1)
  | _ => none
def emb (b : Int × (List (List Int)) × Int) : AV × List AV := (.tp [.ag [.pv (.int .i64 b.1), .sl (.rows b.2.1)], .pv (.int .i64 b.2.2)], [])
def dr : AV → List AV → Option (Int × (List (List Int)) × Int)
  | .tp [.ag [.pv (.int .i64 r0), .sl (.rows r1)], .pv (.int .i64 r2)], [] => some (r0, r1, r2)
  | _, _ => none
theorem dec_ok (vs : List AV) (a : Int × (List Int)) (h : dec vs = some a) : vs = enc a := by
  unfold dec at h
  split at h
  · cases h; rfl
  · cases h
theorem dr_ok (v : AV) (o : List AV) (b : Int × (List (List Int)) × Int) (h : dr v o = some b) : emb b = (v, o) := by
  unfold dr at h
  split at h
  · cases h; rfl
  · cases h
noncomputable def ent (n : Nat) : Ent := { f := 11, ms := [.lend, .lend], α := Int × (List Int), β := Int × (List (List Int)) × Int, dec := dec, enc := enc, emb := emb, m := fun a => Gm.differ_Develop n a.1 a.2, hdec := dec_ok }
theorem run (n : Nat) (a : Int × (List Int)) : AEO (env n) (answers (Int × (List (List Int)) × Int) (used n) (used n)) (tab (Int × (List (List Int)) × Int) n) body (frameOf (enc a) 0) (bodyO (env n) Tryd.f11.results.toList (enc a) dr) = (ent n).m a := by kernel_rfl
theorem ok (n : Nat) (hl : EntsOK Tryd.prog gl (used n)) : EntOK Tryd.prog gl (ent n) :=
  fnO_sound (P := Tryd.prog) (e := ent n) (fn := Tryd.f11) (body := body) (l := used n) (te := te) (gl := gl) (n := ⟨4, 36⟩) (cut := []) (keep := keep) (T := tab (Int × (List (List Int)) × Int) n) (dr := dr) Tryd.func11 (by kernel_rfl) (by kernel_rfl) te_ok (by kernel_rfl) (by kernel_rfl) hl (show Cov _ (env n) (tab (Int × (List (List Int)) × Int) n) body from ⟨trivial, ⟨⟨trivial, ⟨trivial, ⟨⟨trivial, trivial⟩, trivial⟩⟩⟩, ⟨⟨trivial, ⟨⟨trivial, trivial⟩, trivial⟩⟩, ⟨trivial, ⟨⟨trivial, lp8_ok n hl⟩, ⟨trivial, trivial⟩⟩⟩⟩⟩⟩) dr_ok (fun a => ⟨rfl, rfl⟩) (run n)
theorem all_ok (n : Nat) : EntOK Tryd.prog gl (ent n) := ok n ⟨W_differ_Check.all_ok n, W_differ_changed.all_ok n, trivial⟩
end W_differ_Develop
namespace W_design_Check_1
noncomputable def body : Code := Tryd.f86.body.getD .skip
def keep : List (Nat × List Nat) := []
noncomputable def used (_n : Nat) : List Ent := []
noncomputable def env (n : Nat) : Env := envOf te gl (used n) ⟨3, 12⟩ [] keep
noncomputable def tab (ρ : Type) (_n : Nat) : Tab ρ := { live := [(0, [0, 1]), (1, [3])], xl := [], rl := [3], fz := [], jp := [], lp := [] }
def enc (a : Int × Int × (List (List Int))) : List AV := [.pv (.int .i64 a.1), .lb [.pv (.int .i64 a.2.1), .ls (.rows a.2.2)] 0]
def dec : List AV → Option (Int × Int × (List (List Int)))
  | [.pv (.int .i64 p0), .lb [.pv (.int .i64 t1_0), .ls (.rows t1_1)] 0] => some (p0, t1_0, t1_1)
  | _ => none
def emb (b : Bool) : AV × List AV := (.pv (.bool b), [])
def dr : AV → List AV → Option (Bool)
  | .pv (.bool r0), [] => some r0
  | _, _ => none
theorem dec_ok (vs : List AV) (a : Int × Int × (List (List Int))) (h : dec vs = some a) : vs = enc a := by
  unfold dec at h
  split at h
  · cases h; rfl
  · cases h
theorem dr_ok (v : AV) (o : List AV) (b : Bool) (h : dr v o = some b) : emb b = (v, o) := by
  unfold dr at h
  split at h
  · cases h; rfl
  · cases h
noncomputable def ent (n : Nat) : Ent := { f := 86, ms := [.lend], α := Int × Int × (List (List Int)), β := Bool, dec := dec, enc := enc, emb := emb, m := fun a => Gm.design_Check_1 n a.1 a.2.1 a.2.2, hdec := dec_ok }
theorem run (n : Nat) (a : Int × Int × (List (List Int))) : AEO (env n) (answers (Bool) (used n) (used n)) (tab (Bool) n) body (frameOf (enc a) 0) (bodyO (env n) Tryd.f86.results.toList (enc a) dr) = (ent n).m a := by kernel_rfl
theorem ok (n : Nat) (hl : EntsOK Tryd.prog gl (used n)) : EntOK Tryd.prog gl (ent n) :=
  fnO_sound (P := Tryd.prog) (e := ent n) (fn := Tryd.f86) (body := body) (l := used n) (te := te) (gl := gl) (n := ⟨3, 12⟩) (cut := []) (keep := keep) (T := tab (Bool) n) (dr := dr) Tryd.func86 (by kernel_rfl) (by kernel_rfl) te_ok (by kernel_rfl) (by kernel_rfl) hl (show Cov _ (env n) (tab (Bool) n) body from ⟨trivial, ⟨trivial, trivial⟩⟩) dr_ok (fun a => ⟨rfl, rfl⟩) (run n)
theorem all_ok (n : Nat) : EntOK Tryd.prog gl (ent n) := ok n trivial
end W_design_Check_1
namespace W_slices_IndexFunc_intint__design_Check_1
noncomputable def body : Code := Tryd.f100.body.getD .skip
def keep : List (Nat × List Nat) := [(2, [0, 1, 7, 8])]
noncomputable def used (n : Nat) : List Ent := [W_design_Check_1.ent n]
noncomputable def env (n : Nat) : Env := envOf te gl (used n) ⟨4, 19⟩ [] keep
def F2 (c : (List Int) × Int × (List (List Int)) × Int) (s : Int) : Fr := [(0, .ls (.ints .i64 c.1)), (1, .fn 86 [.lb [.pv (.int .i64 c.2.1), .ls (.rows c.2.2.1)] 0]), (7, .pv (.int .i64 c.2.2.2)), (8, .pv (.int .i64 s))]
def d2 : Fr → Option (((List Int) × Int × (List (List Int)) × Int) × (Int))
  | [(0, .ls (.ints .i64 s_0)), (1, .fn 86 [.lb [.pv (.int .i64 f1_0), .ls (.rows f1_1)] 0]), (7, .pv (.int .i64 t7)), (8, .pv (.int .i64 t8))] => some ((s_0, f1_0, f1_1, t7), t8)
  | _ => none
def st2 {ρ : Type} (n : Nat) (c : (List Int) × Int × (List (List Int)) × Int) (Ko : Exit → Fr → Option ρ) (s : Int) (nx : Int → Option ρ) : Option ρ :=
  Gm.slices_IndexFunc_intint__design_Check_1_s2 n c.1 c.2.1 c.2.2.1 c.2.2.2 s nx (fun (y0 : Int) => Ko .ret [(4, .pv (.int .i64 y0))]) (Ko (.exit 0) [])
noncomputable def tab (ρ : Type) (n : Nat) : Tab ρ := { live := [(0, [0, 1]), (1, [0, 1, 7, 8]), (2, [0, 1, 7, 8, 9]), (3, [0, 1, 5, 7, 8]), (4, [0, 1, 5, 7, 8, 16]), (5, [4]), (6, [0, 1, 7, 8]), (7, [4])], xl := [(0, []), (1, [0, 1, 7, 8])], rl := [4], fz := [], jp := [], lp := [(2, fun A Ko => bnd (d2 A) fun p => iterM (st2 n p.1 Ko) n p.2)] }
noncomputable def b2 : Code := (cL (cB (c2 (c1 (c2 body)))))
theorem d2_ok (A : Fr) (c : (List Int) × Int × (List (List Int)) × Int) (s : Int) (h : d2 A = some (c, s)) : A = F2 c s := by
  unfold d2 at h
  split at h
  · cases h; rfl
  · cases h
theorem step2 (ρ : Type) (n : Nat) (c : (List Int) × Int × (List (List Int)) × Int) (Ko : Exit → Fr → Option ρ) (s : Int) (nx : ((List Int) × Int × (List (List Int)) × Int) → (Int) → Option ρ) :
    AEO (env n) (answers ρ (used n) (used n)) (tab ρ n) b2 (F2 c s) (thenO (fun A => bnd (d2 (restr (keepOf (env n) b2) A)) fun p => nx p.1 p.2) Ko) = st2 n c Ko s (nx c) := by kernel_rfl
theorem lp2_ok {ρ : Type} (n : Nat) (hl : EntsOK Tryd.prog gl (used n)) : ∀ (A : Fr) (Ko : Exit → Fr → Option ρ) (r : ρ) (K : Exit → Fr → Prop), (bnd (d2 (restr (keepOf (env n) b2) A)) fun p => iterM (st2 n p.1 Ko) n p.2) = some r → (∀ e A, Ko e A = some r → K e A) → Gx.Sem Tryd.prog (env n) (.loop b2) A K :=
  fun A Ko r K h hk => loop_cod (P := Tryd.prog) (E := env n) (T := tab ρ n) (fun _ _ _ h => answers_ok h) F2 d2 (st2 n) d2_ok (show Cov _ (env n) (tab ρ n) b2 from ⟨trivial, ⟨⟨trivial, trivial⟩, ⟨⟨trivial, ⟨trivial, ⟨⟨trivial, trivial⟩, trivial⟩⟩⟩, trivial⟩⟩⟩) (fun c Ko s nx => step2 ρ n c Ko s nx) n A Ko r K h hk
def enc (a : (List Int) × Int × (List (List Int))) : List AV := [.ls (.ints .i64 a.1), .fn 86 [.lb [.pv (.int .i64 a.2.1), .ls (.rows a.2.2)] 0]]
def dec : List AV → Option ((List Int) × Int × (List (List Int)))
  | [.ls (.ints .i64 s_0), .fn 86 [.lb [.pv (.int .i64 f1_0), .ls (.rows f1_1)] 0]] => some (s_0, f1_0, f1_1)
  | _ => none
def emb (b : Int) : AV × List AV := (.pv (.int .i64 b), [])
def dr : AV → List AV → Option (Int)
  | .pv (.int .i64 r0), [] => some r0
  | _, _ => none
theorem dec_ok (vs : List AV) (a : (List Int) × Int × (List (List Int))) (h : dec vs = some a) : vs = enc a := by
  unfold dec at h
  split at h
  · cases h; rfl
  · cases h
theorem dr_ok (v : AV) (o : List AV) (b : Int) (h : dr v o = some b) : emb b = (v, o) := by
  unfold dr at h
  split at h
  · cases h; rfl
  · cases h
noncomputable def ent (n : Nat) : Ent := { f := 100, ms := [.lend, .lend], α := (List Int) × Int × (List (List Int)), β := Int, dec := dec, enc := enc, emb := emb, m := fun a => Gm.slices_IndexFunc_intint__design_Check_1 n a.1 a.2.1 a.2.2, hdec := dec_ok }
theorem run (n : Nat) (a : (List Int) × Int × (List (List Int))) : AEO (env n) (answers (Int) (used n) (used n)) (tab (Int) n) body (frameOf (enc a) 0) (bodyO (env n) Tryd.f100.results.toList (enc a) dr) = (ent n).m a := by kernel_rfl
theorem ok (n : Nat) (hl : EntsOK Tryd.prog gl (used n)) : EntOK Tryd.prog gl (ent n) :=
  fnO_sound (P := Tryd.prog) (e := ent n) (fn := Tryd.f100) (body := body) (l := used n) (te := te) (gl := gl) (n := ⟨4, 19⟩) (cut := []) (keep := keep) (T := tab (Int) n) (dr := dr) Tryd.func100 (by kernel_rfl) (by kernel_rfl) te_ok (by kernel_rfl) (by kernel_rfl) hl (show Cov _ (env n) (tab (Int) n) body from ⟨trivial, ⟨⟨trivial, lp2_ok n hl⟩, ⟨trivial, trivial⟩⟩⟩) dr_ok (fun a => ⟨rfl, rfl⟩) (run n)
theorem all_ok (n : Nat) : EntOK Tryd.prog gl (ent n) := ok n ⟨W_design_Check_1.all_ok n, trivial⟩
end W_slices_IndexFunc_intint__design_Check_1
namespace W_slices_ContainsFunc_intint__design_Check_1
noncomputable def body : Code := Tryd.f55.body.getD .skip
def keep : List (Nat × List Nat) := []
noncomputable def used (n : Nat) : List Ent := [W_slices_IndexFunc_intint__design_Check_1.ent n]
noncomputable def env (n : Nat) : Env := envOf te gl (used n) ⟨4, 9⟩ [] keep
noncomputable def tab (ρ : Type) (_n : Nat) : Tab ρ := { live := [(0, [0, 1]), (1, [4])], xl := [], rl := [4], fz := [], jp := [], lp := [] }
def enc (a : (List Int) × Int × (List (List Int))) : List AV := [.ls (.ints .i64 a.1), .fn 86 [.lb [.pv (.int .i64 a.2.1), .ls (.rows a.2.2)] 0]]
def dec : List AV → Option ((List Int) × Int × (List (List Int)))
  | [.ls (.ints .i64 s_0), .fn 86 [.lb [.pv (.int .i64 f1_0), .ls (.rows f1_1)] 0]] => some (s_0, f1_0, f1_1)
  | _ => none
def emb (b : Bool) : AV × List AV := (.pv (.bool b), [])
def dr : AV → List AV → Option (Bool)
  | .pv (.bool r0), [] => some r0
  | _, _ => none
theorem dec_ok (vs : List AV) (a : (List Int) × Int × (List (List Int))) (h : dec vs = some a) : vs = enc a := by
  unfold dec at h
  split at h
  · cases h; rfl
  · cases h
theorem dr_ok (v : AV) (o : List AV) (b : Bool) (h : dr v o = some b) : emb b = (v, o) := by
  unfold dr at h
  split at h
  · cases h; rfl
  · cases h
noncomputable def ent (n : Nat) : Ent := { f := 55, ms := [.lend, .lend], α := (List Int) × Int × (List (List Int)), β := Bool, dec := dec, enc := enc, emb := emb, m := fun a => Gm.slices_ContainsFunc_intint__design_Check_1 n a.1 a.2.1 a.2.2, hdec := dec_ok }
theorem run (n : Nat) (a : (List Int) × Int × (List (List Int))) : AEO (env n) (answers (Bool) (used n) (used n)) (tab (Bool) n) body (frameOf (enc a) 0) (bodyO (env n) Tryd.f55.results.toList (enc a) dr) = (ent n).m a := by kernel_rfl
theorem ok (n : Nat) (hl : EntsOK Tryd.prog gl (used n)) : EntOK Tryd.prog gl (ent n) :=
  fnO_sound (P := Tryd.prog) (e := ent n) (fn := Tryd.f55) (body := body) (l := used n) (te := te) (gl := gl) (n := ⟨4, 9⟩) (cut := []) (keep := keep) (T := tab (Bool) n) (dr := dr) Tryd.func55 (by kernel_rfl) (by kernel_rfl) te_ok (by kernel_rfl) (by kernel_rfl) hl (show Cov _ (env n) (tab (Bool) n) body from ⟨trivial, ⟨trivial, trivial⟩⟩) dr_ok (fun a => ⟨rfl, rfl⟩) (run n)
theorem all_ok (n : Nat) : EntOK Tryd.prog gl (ent n) := ok n ⟨W_slices_IndexFunc_intint__design_Check_1.all_ok n, trivial⟩
end W_slices_ContainsFunc_intint__design_Check_1
namespace W_design_Check
noncomputable def body : Code := Tryd.f40.body.getD .skip
def keep : List (Nat × List Nat) := [(6, [1, 21, 22, 23]), (11, [1, 4, 5, 21, 22, 23])]
noncomputable def used (n : Nat) : List Ent := [W_slices_ContainsFunc_intint__design_Check_1.ent n]
noncomputable def env (n : Nat) : Env := envOf te gl (used n) ⟨1, 47⟩ [] keep
def F11 (c : Int × (List (List Int)) × (List Int) × (List (List Int)) × Int × Int) (s : Int) : Fr := [(1, .bx [.pv (.int .i64 c.1), .ls (.rows c.2.1)]), (4, .sl (.ints .i64 c.2.2.1)), (5, .pv (.int .i64 s)), (21, .ls (.rows c.2.2.2.1)), (22, .pv (.int .i64 c.2.2.2.2.1)), (23, .pv (.int .i64 c.2.2.2.2.2))]
def d11 : Fr → Option ((Int × (List (List Int)) × (List Int) × (List (List Int)) × Int × Int) × (Int))
  | [(1, .bx [.pv (.int .i64 d1_0), .ls (.rows d1_1)]), (4, .sl (.ints .i64 b4)), (5, .pv (.int .i64 i5)), (21, .ls (.rows t21)), (22, .pv (.int .i64 t22)), (23, .pv (.int .i64 t23))] => some ((d1_0, d1_1, b4, t21, t22, t23), i5)
  | _ => none
def st11 {ρ : Type} (n : Nat) (c : Int × (List (List Int)) × (List Int) × (List (List Int)) × Int × Int) (Ko : Exit → Fr → Option ρ) (s : Int) (nx : Int → Option ρ) : Option ρ :=
  Gm.design_Check_s11 n c.1 c.2.1 c.2.2.1 c.2.2.2.1 c.2.2.2.2.1 c.2.2.2.2.2 s nx (Ko .ret [(2, .pv (.int .i64 2))]) (Ko (.exit 3) [(1, .bx [.pv (.int .i64 c.1), .ls (.rows c.2.1)]), (21, .ls (.rows c.2.2.2.1)), (22, .pv (.int .i64 c.2.2.2.2.1)), (23, .pv (.int .i64 c.2.2.2.2.2))])
def F6 (c : Int × (List (List Int)) × (List (List Int)) × Int) (s : Int) : Fr := [(1, .bx [.pv (.int .i64 c.1), .ls (.rows c.2.1)]), (21, .ls (.rows c.2.2.1)), (22, .pv (.int .i64 c.2.2.2)), (23, .pv (.int .i64 s))]
def d6 : Fr → Option ((Int × (List (List Int)) × (List (List Int)) × Int) × (Int))
  | [(1, .bx [.pv (.int .i64 d1_0), .ls (.rows d1_1)]), (21, .ls (.rows t21)), (22, .pv (.int .i64 t22)), (23, .pv (.int .i64 t23))] => some ((d1_0, d1_1, t21, t22), t23)
  | _ => none
def st6 {ρ : Type} (n : Nat) (c : Int × (List (List Int)) × (List (List Int)) × Int) (Ko : Exit → Fr → Option ρ) (s : Int) (nx : Int → Option ρ) : Option ρ :=
  Gm.design_Check_s6 n c.1 c.2.1 c.2.2.1 c.2.2.2 s nx (Ko .ret [(2, .pv (.int .i64 1))]) (Ko .ret [(2, .pv (.int .i64 2))]) (Ko (.exit 1) [])
noncomputable def tab (ρ : Type) (n : Nat) : Tab ρ := { live := [(0, [1]), (1, [1, 6]), (2, [2]), (3, [1, 15]), (4, [2]), (5, [1, 21, 22, 23]), (6, [1, 21, 22, 23, 24]), (7, [1, 4, 21, 22, 23]), (8, [1, 4, 21, 22, 23, 29]), (9, [2]), (10, [1, 4, 5, 21, 22, 23]), (11, [1, 4, 5, 21, 22, 23, 33]), (12, [1, 4, 5, 21, 22, 23]), (13, [1, 4, 5, 21, 22, 23, 45]), (14, [2]), (15, [1, 21, 22, 23]), (16, [2])], xl := [(0, [1]), (1, []), (2, [1, 21, 22, 23]), (3, [1, 21, 22, 23]), (4, [1, 4, 5, 21, 22, 23])], rl := [2], fz := [], jp := [], lp := [(11, fun A Ko => bnd (d11 A) fun p => iterM (st11 n p.1 Ko) n p.2), (6, fun A Ko => bnd (d6 A) fun p => iterM (st6 n p.1 Ko) n p.2)] }
noncomputable def b11 : Code := (cL (cB (c2 (c2 (c2 (cB (c1 (c2 (c2 (cL (cB (c2 (c1 (c2 (c2 body)))))))))))))))
theorem d11_ok (A : Fr) (c : Int × (List (List Int)) × (List Int) × (List (List Int)) × Int × Int) (s : Int) (h : d11 A = some (c, s)) : A = F11 c s := by
  unfold d11 at h
  split at h
  · cases h; rfl
  · cases h
theorem step11 (ρ : Type) (n : Nat) (c : Int × (List (List Int)) × (List Int) × (List (List Int)) × Int × Int) (Ko : Exit → Fr → Option ρ) (s : Int) (nx : (Int × (List (List Int)) × (List Int) × (List (List Int)) × Int × Int) → (Int) → Option ρ) :
    AEO (env n) (answers ρ (used n) (used n)) (tab ρ n) b11 (F11 c s) (thenO (fun A => bnd (d11 (restr (keepOf (env n) b11) A)) fun p => nx p.1 p.2) Ko) = st11 n c Ko s (nx c) := by kernel_rfl
theorem lp11_ok {ρ : Type} (n : Nat) (hl : EntsOK Tryd.prog gl (used n)) : ∀ (A : Fr) (Ko : Exit → Fr → Option ρ) (r : ρ) (K : Exit → Fr → Prop), (bnd (d11 (restr (keepOf (env n) b11) A)) fun p => iterM (st11 n p.1 Ko) n p.2) = some r → (∀ e A, Ko e A = some r → K e A) → Gx.Sem Tryd.prog (env n) (.loop b11) A K :=
  fun A Ko r K h hk => loop_cod (P := Tryd.prog) (E := env n) (T := tab ρ n) (fun _ _ _ h => answers_ok h) F11 d11 (st11 n) d11_ok (show Cov _ (env n) (tab ρ n) b11 from ⟨⟨trivial, ⟨trivial, trivial⟩⟩, ⟨⟨trivial, ⟨⟨trivial, trivial⟩, trivial⟩⟩, trivial⟩⟩) (fun c Ko s nx => step11 ρ n c Ko s nx) n A Ko r K h hk
noncomputable def b6 : Code := (cL (cB (c2 (c1 (c2 (c2 body))))))
theorem d6_ok (A : Fr) (c : Int × (List (List Int)) × (List (List Int)) × Int) (s : Int) (h : d6 A = some (c, s)) : A = F6 c s := by
  unfold d6 at h
  split at h
  · cases h; rfl
  · cases h
theorem step6 (ρ : Type) (n : Nat) (c : Int × (List (List Int)) × (List (List Int)) × Int) (Ko : Exit → Fr → Option ρ) (s : Int) (nx : (Int × (List (List Int)) × (List (List Int)) × Int) → (Int) → Option ρ) :
    AEO (env n) (answers ρ (used n) (used n)) (tab ρ n) b6 (F6 c s) (thenO (fun A => bnd (d6 (restr (keepOf (env n) b6) A)) fun p => nx p.1 p.2) Ko) = st6 n c Ko s (nx c) := by kernel_rfl
theorem lp6_ok {ρ : Type} (n : Nat) (hl : EntsOK Tryd.prog gl (used n)) : ∀ (A : Fr) (Ko : Exit → Fr → Option ρ) (r : ρ) (K : Exit → Fr → Prop), (bnd (d6 (restr (keepOf (env n) b6) A)) fun p => iterM (st6 n p.1 Ko) n p.2) = some r → (∀ e A, Ko e A = some r → K e A) → Gx.Sem Tryd.prog (env n) (.loop b6) A K :=
  fun A Ko r K h hk => loop_cod (P := Tryd.prog) (E := env n) (T := tab ρ n) (fun _ _ _ h => answers_ok h) F6 d6 (st6 n) d6_ok (show Cov _ (env n) (tab ρ n) b6 from ⟨trivial, ⟨⟨trivial, trivial⟩, ⟨⟨trivial, ⟨⟨trivial, ⟨⟨trivial, trivial⟩, trivial⟩⟩, ⟨trivial, lp11_ok n hl⟩⟩⟩, trivial⟩⟩⟩) (fun c Ko s nx => step6 ρ n c Ko s nx) n A Ko r K h hk
def enc (a : Int × (List (List Int))) : List AV := [.ag [.pv (.int .i64 a.1), .ls (.rows a.2)]]
def dec : List AV → Option (Int × (List (List Int)))
  | [.ag [.pv (.int .i64 d0_0), .ls (.rows d0_1)]] => some (d0_0, d0_1)
  | _ => none
def emb (b : Int) : AV × List AV := (.pv (.int .i64 b), [])
def dr : AV → List AV → Option (Int)
  | .pv (.int .i64 r0), [] => some r0
  | _, _ => none
theorem dec_ok (vs : List AV) (a : Int × (List (List Int))) (h : dec vs = some a) : vs = enc a := by
  unfold dec at h
  split at h
  · cases h; rfl
  · cases h
theorem dr_ok (v : AV) (o : List AV) (b : Int) (h : dr v o = some b) : emb b = (v, o) := by
  unfold dr at h
  split at h
  · cases h; rfl
  · cases h
noncomputable def ent (n : Nat) : Ent := { f := 40, ms := [.lend], α := Int × (List (List Int)), β := Int, dec := dec, enc := enc, emb := emb, m := fun a => Gm.design_Check n a.1 a.2, hdec := dec_ok }
theorem run (n : Nat) (a : Int × (List (List Int))) : AEO (env n) (answers (Int) (used n) (used n)) (tab (Int) n) body (frameOf (enc a) 0) (bodyO (env n) Tryd.f40.results.toList (enc a) dr) = (ent n).m a := by kernel_rfl
theorem ok (n : Nat) (hl : EntsOK Tryd.prog gl (used n)) : EntOK Tryd.prog gl (ent n) :=
  fnO_sound (P := Tryd.prog) (e := ent n) (fn := Tryd.f40) (body := body) (l := used n) (te := te) (gl := gl) (n := ⟨1, 47⟩) (cut := []) (keep := keep) (T := tab (Int) n) (dr := dr) Tryd.func40 (by kernel_rfl) (by kernel_rfl) te_ok (by kernel_rfl) (by kernel_rfl) hl (show Cov _ (env n) (tab (Int) n) body from ⟨trivial, ⟨⟨trivial, ⟨⟨trivial, trivial⟩, ⟨trivial, ⟨⟨trivial, trivial⟩, trivial⟩⟩⟩⟩, ⟨⟨trivial, lp6_ok n hl⟩, ⟨trivial, trivial⟩⟩⟩⟩) dr_ok (fun a => ⟨rfl, rfl⟩) (run n)
theorem all_ok (n : Nat) : EntOK Tryd.prog gl (ent n) := ok n ⟨W_slices_ContainsFunc_intint__design_Check_1.all_ok n, trivial⟩
end W_design_Check
namespace W_plane_linesOf
noncomputable def body : Code := Tryd.f45.body.getD .skip
def keep : List (Nat × List Nat) := [(4, [1, 2, 4, 5, 13, 14, 15]), (7, [1, 2, 4, 5, 6, 7, 13, 14, 15, 20, 21, 22]), (10, [1, 2, 4, 5, 6, 7, 9, 13, 14, 15, 20, 21, 22, 26, 27, 28])]
noncomputable def used (_n : Nat) : List Ent := []
noncomputable def env (n : Nat) : Env := envOf te gl (used n) ⟨1, 62⟩ [] keep
def Fg20 (c : Int × (List (List Int)) × (List Int) × (List Int) × Int) : Fr := [(1, .bx [.pv (.int .i64 c.1), .ls (.rows c.2.1)]), (2, .ba (.ints .i64 c.2.2.1)), (4, .ba (.ints .i64 c.2.2.2.1)), (5, .pv (.int .i64 c.2.2.2.2))]
def dg20 : Fr → Option (Int × (List (List Int)) × (List Int) × (List Int) × Int)
  | [(1, .bx [.pv (.int .i64 d1_0), .ls (.rows d1_1)]), (2, .ba (.ints .i64 t2)), (4, .ba (.ints .i64 out4)), (5, .pv (.int .i64 many5))] => some (d1_0, d1_1, t2, out4, many5)
  | _ => none
def gg20 {ρ : Type} (n : Nat) (c : Int × (List (List Int)) × (List Int) × (List Int) × Int) (Ko : Fr → Option ρ) : Option ρ :=
  Gm.plane_linesOf_g20 n c.1 c.2.1 c.2.2.1 c.2.2.2.1 c.2.2.2.2 (fun (y0 : Bool) => Ko [(2, .ba (.ints .i64 c.2.2.2.1)), (3, .pv (.bool y0))])
noncomputable def og20 : Array Oper := match (c1 (c2 (c2 (c2 (c2 body))))) with | .region _ ops _ => ops | _ => #[]
theorem dg20_ok (A : Fr) (c : Int × (List (List Int)) × (List Int) × (List Int) × Int) (h : dg20 A = some c) : A = Fg20 c := by
  unfold dg20 at h
  split at h
  · cases h; rfl
  · cases h
def F10 (c : Int × (List (List Int)) × (List Int) × Int × (List Int) × Int × (List (List Int)) × Int × Int × (List Int) × Int × Int × (List Int) × Int) (s : (List Int) × Int × Int) : Fr := [(1, .bx [.pv (.int .i64 c.1), .ls (.rows c.2.1)]), (2, .ba (.ints .i64 c.2.2.1)), (4, .ba (.ints .i64 s.1)), (5, .pv (.int .i64 s.2.1)), (6, .pv (.int .i64 c.2.2.2.1)), (7, .sl (.ints .i64 c.2.2.2.2.1)), (9, .pv (.int .i64 c.2.2.2.2.2.1)), (13, .ls (.rows c.2.2.2.2.2.2.1)), (14, .pv (.int .i64 c.2.2.2.2.2.2.2.1)), (15, .pv (.int .i64 c.2.2.2.2.2.2.2.2.1)), (20, .sl (.ints .i64 c.2.2.2.2.2.2.2.2.2.1)), (21, .pv (.int .i64 c.2.2.2.2.2.2.2.2.2.2.1)), (22, .pv (.int .i64 c.2.2.2.2.2.2.2.2.2.2.2.1)), (26, .sl (.ints .i64 c.2.2.2.2.2.2.2.2.2.2.2.2.1)), (27, .pv (.int .i64 c.2.2.2.2.2.2.2.2.2.2.2.2.2)), (28, .pv (.int .i64 s.2.2))]
def d10 : Fr → Option ((Int × (List (List Int)) × (List Int) × Int × (List Int) × Int × (List (List Int)) × Int × Int × (List Int) × Int × Int × (List Int) × Int) × ((List Int) × Int × Int))
  | [(1, .bx [.pv (.int .i64 d1_0), .ls (.rows d1_1)]), (2, .ba (.ints .i64 t2)), (4, .ba (.ints .i64 out4)), (5, .pv (.int .i64 many5)), (6, .pv (.int .i64 i6)), (7, .sl (.ints .i64 b7)), (9, .pv (.int .i64 p9)), (13, .ls (.rows t13)), (14, .pv (.int .i64 t14)), (15, .pv (.int .i64 t15)), (20, .sl (.ints .i64 t20)), (21, .pv (.int .i64 t21)), (22, .pv (.int .i64 t22)), (26, .sl (.ints .i64 t26)), (27, .pv (.int .i64 t27)), (28, .pv (.int .i64 t28))] => some ((d1_0, d1_1, t2, i6, b7, p9, t13, t14, t15, t20, t21, t22, t26, t27), (out4, many5, t28))
  | _ => none
def st10 {ρ : Type} (n : Nat) (c : Int × (List (List Int)) × (List Int) × Int × (List Int) × Int × (List (List Int)) × Int × Int × (List Int) × Int × Int × (List Int) × Int) (Ko : Exit → Fr → Option ρ) (s : (List Int) × Int × Int) (nx : ((List Int) × Int × Int) → Option ρ) : Option ρ :=
  Gm.plane_linesOf_s10 n c.1 c.2.1 c.2.2.1 c.2.2.2.1 c.2.2.2.2.1 c.2.2.2.2.2.1 c.2.2.2.2.2.2.1 c.2.2.2.2.2.2.2.1 c.2.2.2.2.2.2.2.2.1 c.2.2.2.2.2.2.2.2.2.1 c.2.2.2.2.2.2.2.2.2.2.1 c.2.2.2.2.2.2.2.2.2.2.2.1 c.2.2.2.2.2.2.2.2.2.2.2.2.1 c.2.2.2.2.2.2.2.2.2.2.2.2.2 s.1 s.2.1 s.2.2 (fun a0 a1 a2 => nx (a0, a1, a2)) (fun (y0 : List Int) => Ko .ret [(3, .pv (.bool false)), (2, .ba (.ints .i64 y0))]) (fun (y0 : List Int) (y1 : Int) => Ko (.exit 4) [(1, .bx [.pv (.int .i64 c.1), .ls (.rows c.2.1)]), (2, .ba (.ints .i64 c.2.2.1)), (4, .ba (.ints .i64 y0)), (5, .pv (.int .i64 y1)), (6, .pv (.int .i64 c.2.2.2.1)), (7, .sl (.ints .i64 c.2.2.2.2.1)), (13, .ls (.rows c.2.2.2.2.2.2.1)), (14, .pv (.int .i64 c.2.2.2.2.2.2.2.1)), (15, .pv (.int .i64 c.2.2.2.2.2.2.2.2.1)), (20, .sl (.ints .i64 c.2.2.2.2.2.2.2.2.2.1)), (21, .pv (.int .i64 c.2.2.2.2.2.2.2.2.2.2.1)), (22, .pv (.int .i64 c.2.2.2.2.2.2.2.2.2.2.2.1))])
def F7 (c : Int × (List (List Int)) × (List Int) × Int × (List Int) × (List (List Int)) × Int × Int × (List Int) × Int) (s : (List Int) × Int × Int) : Fr := [(1, .bx [.pv (.int .i64 c.1), .ls (.rows c.2.1)]), (2, .ba (.ints .i64 c.2.2.1)), (4, .ba (.ints .i64 s.1)), (5, .pv (.int .i64 s.2.1)), (6, .pv (.int .i64 c.2.2.2.1)), (7, .sl (.ints .i64 c.2.2.2.2.1)), (13, .ls (.rows c.2.2.2.2.2.1)), (14, .pv (.int .i64 c.2.2.2.2.2.2.1)), (15, .pv (.int .i64 c.2.2.2.2.2.2.2.1)), (20, .sl (.ints .i64 c.2.2.2.2.2.2.2.2.1)), (21, .pv (.int .i64 c.2.2.2.2.2.2.2.2.2)), (22, .pv (.int .i64 s.2.2))]
def d7 : Fr → Option ((Int × (List (List Int)) × (List Int) × Int × (List Int) × (List (List Int)) × Int × Int × (List Int) × Int) × ((List Int) × Int × Int))
  | [(1, .bx [.pv (.int .i64 d1_0), .ls (.rows d1_1)]), (2, .ba (.ints .i64 t2)), (4, .ba (.ints .i64 out4)), (5, .pv (.int .i64 many5)), (6, .pv (.int .i64 i6)), (7, .sl (.ints .i64 b7)), (13, .ls (.rows t13)), (14, .pv (.int .i64 t14)), (15, .pv (.int .i64 t15)), (20, .sl (.ints .i64 t20)), (21, .pv (.int .i64 t21)), (22, .pv (.int .i64 t22))] => some ((d1_0, d1_1, t2, i6, b7, t13, t14, t15, t20, t21), (out4, many5, t22))
  | _ => none
def st7 {ρ : Type} (n : Nat) (c : Int × (List (List Int)) × (List Int) × Int × (List Int) × (List (List Int)) × Int × Int × (List Int) × Int) (Ko : Exit → Fr → Option ρ) (s : (List Int) × Int × Int) (nx : ((List Int) × Int × Int) → Option ρ) : Option ρ :=
  Gm.plane_linesOf_s7 n c.1 c.2.1 c.2.2.1 c.2.2.2.1 c.2.2.2.2.1 c.2.2.2.2.2.1 c.2.2.2.2.2.2.1 c.2.2.2.2.2.2.2.1 c.2.2.2.2.2.2.2.2.1 c.2.2.2.2.2.2.2.2.2 s.1 s.2.1 s.2.2 (fun a0 a1 a2 => nx (a0, a1, a2)) (fun (y0 : List Int) => Ko .ret [(3, .pv (.bool false)), (2, .ba (.ints .i64 y0))]) (fun (y0 : List Int) (y1 : Int) => Ko (.exit 2) [(1, .bx [.pv (.int .i64 c.1), .ls (.rows c.2.1)]), (2, .ba (.ints .i64 c.2.2.1)), (4, .ba (.ints .i64 y0)), (5, .pv (.int .i64 y1)), (13, .ls (.rows c.2.2.2.2.2.1)), (14, .pv (.int .i64 c.2.2.2.2.2.2.1)), (15, .pv (.int .i64 c.2.2.2.2.2.2.2.1))])
def F4 (c : Int × (List (List Int)) × (List Int) × (List (List Int)) × Int) (s : (List Int) × Int × Int) : Fr := [(1, .bx [.pv (.int .i64 c.1), .ls (.rows c.2.1)]), (2, .ba (.ints .i64 c.2.2.1)), (4, .ba (.ints .i64 s.1)), (5, .pv (.int .i64 s.2.1)), (13, .ls (.rows c.2.2.2.1)), (14, .pv (.int .i64 c.2.2.2.2)), (15, .pv (.int .i64 s.2.2))]
def d4 : Fr → Option ((Int × (List (List Int)) × (List Int) × (List (List Int)) × Int) × ((List Int) × Int × Int))
  | [(1, .bx [.pv (.int .i64 d1_0), .ls (.rows d1_1)]), (2, .ba (.ints .i64 t2)), (4, .ba (.ints .i64 out4)), (5, .pv (.int .i64 many5)), (13, .ls (.rows t13)), (14, .pv (.int .i64 t14)), (15, .pv (.int .i64 t15))] => some ((d1_0, d1_1, t2, t13, t14), (out4, many5, t15))
  | _ => none
def st4 {ρ : Type} (n : Nat) (c : Int × (List (List Int)) × (List Int) × (List (List Int)) × Int) (Ko : Exit → Fr → Option ρ) (s : (List Int) × Int × Int) (nx : ((List Int) × Int × Int) → Option ρ) : Option ρ :=
  Gm.plane_linesOf_s4 n c.1 c.2.1 c.2.2.1 c.2.2.2.1 c.2.2.2.2 s.1 s.2.1 s.2.2 (fun a0 a1 a2 => nx (a0, a1, a2)) (fun (y0 : List Int) => Ko .ret [(3, .pv (.bool false)), (2, .ba (.ints .i64 y0))]) (fun (y0 : List Int) (y1 : Int) => Ko (.exit 0) [(1, .bx [.pv (.int .i64 c.1), .ls (.rows c.2.1)]), (2, .ba (.ints .i64 c.2.2.1)), (4, .ba (.ints .i64 y0)), (5, .pv (.int .i64 y1))])
noncomputable def tab (ρ : Type) (n : Nat) : Tab ρ := { live := [(0, [1, 2]), (1, [1, 2, 4]), (2, [1, 2, 4, 5]), (3, [1, 2, 4, 5, 13, 14, 15]), (4, [1, 2, 4, 5, 13, 14, 15, 16]), (5, [1, 2, 4, 5, 6, 7, 13, 14, 15]), (6, [1, 2, 4, 5, 6, 7, 13, 14, 15, 20, 21, 22]), (7, [1, 2, 4, 5, 6, 7, 13, 14, 15, 20, 21, 22, 23]), (8, [1, 2, 4, 5, 6, 7, 9, 13, 14, 15, 20, 21, 22]), (9, [1, 2, 4, 5, 6, 7, 9, 13, 14, 15, 20, 21, 22, 26, 27, 28]), (10, [1, 2, 4, 5, 6, 7, 9, 13, 14, 15, 20, 21, 22, 26, 27, 28, 29]), (11, [1, 2, 4, 5, 6, 7, 9, 11, 13, 14, 15, 20, 21, 22, 26, 27, 28]), (12, [1, 2, 4, 5, 6, 7, 9, 11, 13, 14, 15, 20, 21, 22, 26, 27, 28, 34]), (13, [1, 2, 4, 5, 6, 7, 9, 11, 13, 14, 15, 20, 21, 22, 26, 27, 28, 40]), (14, [2, 3]), (15, [1, 2, 4, 5, 6, 7, 9, 13, 14, 15, 20, 21, 22, 26, 27, 28]), (16, [1, 2, 4, 5, 6, 7, 9, 13, 14, 15, 20, 21, 22, 26, 27, 28]), (17, [1, 2, 4, 5, 6, 7, 9, 13, 14, 15, 20, 21, 22, 26, 27, 28]), (18, [1, 2, 4, 5, 6, 7, 13, 14, 15, 20, 21, 22]), (19, [1, 2, 4, 5, 13, 14, 15]), (20, [2, 3])], xl := [(0, [1, 2, 4, 5]), (1, [1, 2, 4, 5, 13, 14, 15]), (2, [1, 2, 4, 5, 13, 14, 15]), (3, [1, 2, 4, 5, 6, 7, 13, 14, 15, 20, 21, 22]), (4, [1, 2, 4, 5, 6, 7, 13, 14, 15, 20, 21, 22]), (5, [1, 2, 4, 5, 6, 7, 9, 13, 14, 15, 20, 21, 22, 26, 27, 28])], rl := [2, 3], fz := [], jp := [], lp := [(10, fun A Ko => bnd (d10 A) fun p => iterM (st10 n p.1 Ko) n p.2), (7, fun A Ko => bnd (d7 A) fun p => iterM (st7 n p.1 Ko) n p.2), (4, fun A Ko => bnd (d4 A) fun p => iterM (st4 n p.1 Ko) n p.2)], rg := [(20, fun A Ko => bnd (dg20 A) fun c => gg20 n c Ko)] }
theorem rg20_ok {ρ : Type} (n : Nat) (hl : EntsOK Tryd.prog gl (used n)) : ∀ (A : Fr) (Ko : Fr → Option ρ) (r : ρ) (K : Exit → Fr → Prop), (bnd (dg20 A) fun c => gg20 n c Ko) = some r → (∀ A, Ko A = some r → K .normal A) → Gx.Sem Tryd.prog (env n) (.region 20 og20 true) A K :=
  region_cod (P := Tryd.prog) (E := env n) (orc := answers ρ (used n) (used n)) (fun _ _ _ h => answers_ok h) Fg20 dg20 (gg20 n) [2, 3] [3, 5, 9] [[0, 1, 2, 3, 4, 5, 6, 7, 8, 9, 10], [0, 1, 2, 3, 4, 9, 5, 6, 7, 8, 10], [0, 1, 2, 4, 5, 3, 6, 7, 8, 9, 10], [0, 1, 2, 4, 5, 6, 9, 3, 7, 8, 10], [0, 1, 2, 4, 9, 3, 5, 6, 7, 8, 10], [0, 1, 2, 4, 9, 5, 3, 6, 7, 8, 10]] (by kernel_rfl) ⟨by kernel_rfl, by kernel_rfl⟩ (by kernel_rfl) dg20_ok (fun c Ko => by kernel_rfl)
noncomputable def b10 : Code := (cL (cB (c2 (c2 (cB (c1 (c2 (c2 (cL (cB (c2 (c2 (cB (c1 (c2 (c2 (cL (cB (c2 (c1 (c2 (c2 (c2 body)))))))))))))))))))))))
theorem d10_ok (A : Fr) (c : Int × (List (List Int)) × (List Int) × Int × (List Int) × Int × (List (List Int)) × Int × Int × (List Int) × Int × Int × (List Int) × Int) (s : (List Int) × Int × Int) (h : d10 A = some (c, s)) : A = F10 c s := by
  unfold d10 at h
  split at h
  · cases h; rfl
  · cases h
theorem step10 (ρ : Type) (n : Nat) (c : Int × (List (List Int)) × (List Int) × Int × (List Int) × Int × (List (List Int)) × Int × Int × (List Int) × Int × Int × (List Int) × Int) (Ko : Exit → Fr → Option ρ) (s : (List Int) × Int × Int) (nx : (Int × (List (List Int)) × (List Int) × Int × (List Int) × Int × (List (List Int)) × Int × Int × (List Int) × Int × Int × (List Int) × Int) → ((List Int) × Int × Int) → Option ρ) :
    AEO (env n) (answers ρ (used n) (used n)) (tab ρ n) b10 (F10 c s) (thenO (fun A => bnd (d10 (restr (keepOf (env n) b10) A)) fun p => nx p.1 p.2) Ko) = st10 n c Ko s (nx c) := by kernel_rfl
theorem lp10_ok {ρ : Type} (n : Nat) (hl : EntsOK Tryd.prog gl (used n)) : ∀ (A : Fr) (Ko : Exit → Fr → Option ρ) (r : ρ) (K : Exit → Fr → Prop), (bnd (d10 (restr (keepOf (env n) b10) A)) fun p => iterM (st10 n p.1 Ko) n p.2) = some r → (∀ e A, Ko e A = some r → K e A) → Gx.Sem Tryd.prog (env n) (.loop b10) A K :=
  fun A Ko r K h hk => loop_cod (P := Tryd.prog) (E := env n) (T := tab ρ n) (fun _ _ _ h => answers_ok h) F10 d10 (st10 n) d10_ok (show Cov _ (env n) (tab ρ n) b10 from ⟨trivial, ⟨⟨trivial, trivial⟩, ⟨⟨trivial, ⟨⟨trivial, ⟨trivial, trivial⟩⟩, ⟨⟨trivial, ⟨⟨trivial, trivial⟩, trivial⟩⟩, ⟨trivial, trivial⟩⟩⟩⟩, trivial⟩⟩⟩) (fun c Ko s nx => step10 ρ n c Ko s nx) n A Ko r K h hk
noncomputable def b7 : Code := (cL (cB (c2 (c2 (cB (c1 (c2 (c2 (cL (cB (c2 (c1 (c2 (c2 (c2 body)))))))))))))))
theorem d7_ok (A : Fr) (c : Int × (List (List Int)) × (List Int) × Int × (List Int) × (List (List Int)) × Int × Int × (List Int) × Int) (s : (List Int) × Int × Int) (h : d7 A = some (c, s)) : A = F7 c s := by
  unfold d7 at h
  split at h
  · cases h; rfl
  · cases h
theorem step7 (ρ : Type) (n : Nat) (c : Int × (List (List Int)) × (List Int) × Int × (List Int) × (List (List Int)) × Int × Int × (List Int) × Int) (Ko : Exit → Fr → Option ρ) (s : (List Int) × Int × Int) (nx : (Int × (List (List Int)) × (List Int) × Int × (List Int) × (List (List Int)) × Int × Int × (List Int) × Int) → ((List Int) × Int × Int) → Option ρ) :
    AEO (env n) (answers ρ (used n) (used n)) (tab ρ n) b7 (F7 c s) (thenO (fun A => bnd (d7 (restr (keepOf (env n) b7) A)) fun p => nx p.1 p.2) Ko) = st7 n c Ko s (nx c) := by kernel_rfl
theorem lp7_ok {ρ : Type} (n : Nat) (hl : EntsOK Tryd.prog gl (used n)) : ∀ (A : Fr) (Ko : Exit → Fr → Option ρ) (r : ρ) (K : Exit → Fr → Prop), (bnd (d7 (restr (keepOf (env n) b7) A)) fun p => iterM (st7 n p.1 Ko) n p.2) = some r → (∀ e A, Ko e A = some r → K e A) → Gx.Sem Tryd.prog (env n) (.loop b7) A K :=
  fun A Ko r K h hk => loop_cod (P := Tryd.prog) (E := env n) (T := tab ρ n) (fun _ _ _ h => answers_ok h) F7 d7 (st7 n) d7_ok (show Cov _ (env n) (tab ρ n) b7 from ⟨trivial, ⟨⟨trivial, trivial⟩, ⟨⟨trivial, ⟨trivial, lp10_ok n hl⟩⟩, trivial⟩⟩⟩) (fun c Ko s nx => step7 ρ n c Ko s nx) n A Ko r K h hk
noncomputable def b4 : Code := (cL (cB (c2 (c1 (c2 (c2 (c2 body)))))))
theorem d4_ok (A : Fr) (c : Int × (List (List Int)) × (List Int) × (List (List Int)) × Int) (s : (List Int) × Int × Int) (h : d4 A = some (c, s)) : A = F4 c s := by
  unfold d4 at h
  split at h
  · cases h; rfl
  · cases h
theorem step4 (ρ : Type) (n : Nat) (c : Int × (List (List Int)) × (List Int) × (List (List Int)) × Int) (Ko : Exit → Fr → Option ρ) (s : (List Int) × Int × Int) (nx : (Int × (List (List Int)) × (List Int) × (List (List Int)) × Int) → ((List Int) × Int × Int) → Option ρ) :
    AEO (env n) (answers ρ (used n) (used n)) (tab ρ n) b4 (F4 c s) (thenO (fun A => bnd (d4 (restr (keepOf (env n) b4) A)) fun p => nx p.1 p.2) Ko) = st4 n c Ko s (nx c) := by kernel_rfl
theorem lp4_ok {ρ : Type} (n : Nat) (hl : EntsOK Tryd.prog gl (used n)) : ∀ (A : Fr) (Ko : Exit → Fr → Option ρ) (r : ρ) (K : Exit → Fr → Prop), (bnd (d4 (restr (keepOf (env n) b4) A)) fun p => iterM (st4 n p.1 Ko) n p.2) = some r → (∀ e A, Ko e A = some r → K e A) → Gx.Sem Tryd.prog (env n) (.loop b4) A K :=
  fun A Ko r K h hk => loop_cod (P := Tryd.prog) (E := env n) (T := tab ρ n) (fun _ _ _ h => answers_ok h) F4 d4 (st4 n) d4_ok (show Cov _ (env n) (tab ρ n) b4 from ⟨trivial, ⟨⟨trivial, trivial⟩, ⟨⟨trivial, ⟨trivial, lp7_ok n hl⟩⟩, trivial⟩⟩⟩) (fun c Ko s nx => step4 ρ n c Ko s nx) n A Ko r K h hk
def enc (a : Int × (List (List Int))) : List AV := [.ag [.pv (.int .i64 a.1), .ls (.rows a.2)]]
def dec : List AV → Option (Int × (List (List Int)))
  | [.ag [.pv (.int .i64 d0_0), .ls (.rows d0_1)]] => some (d0_0, d0_1)
  | _ => none
def emb (b : (List Int) × Bool) : AV × List AV := (.tp [.aa (.ints .i64 b.1), .pv (.bool b.2)], [])
def dr : AV → List AV → Option ((List Int) × Bool)
  | .tp [.aa (.ints .i64 r0), .pv (.bool r1)], [] => some (r0, r1)
  | _, _ => none
theorem dec_ok (vs : List AV) (a : Int × (List (List Int))) (h : dec vs = some a) : vs = enc a := by
  unfold dec at h
  split at h
  · cases h; rfl
  · cases h
theorem dr_ok (v : AV) (o : List AV) (b : (List Int) × Bool) (h : dr v o = some b) : emb b = (v, o) := by
  unfold dr at h
  split at h
  · cases h; rfl
  · cases h
noncomputable def ent (n : Nat) : Ent := { f := 45, ms := [.lend], α := Int × (List (List Int)), β := (List Int) × Bool, dec := dec, enc := enc, emb := emb, m := fun a => Gm.plane_linesOf n a.1 a.2, hdec := dec_ok }
theorem run (n : Nat) (a : Int × (List (List Int))) : AEO (env n) (answers ((List Int) × Bool) (used n) (used n)) (tab ((List Int) × Bool) n) body (frameOf (enc a) 0) (bodyO (env n) Tryd.f45.results.toList (enc a) dr) = (ent n).m a := by kernel_rfl
theorem ok (n : Nat) (hl : EntsOK Tryd.prog gl (used n)) : EntOK Tryd.prog gl (ent n) :=
  fnO_sound (P := Tryd.prog) (e := ent n) (fn := Tryd.f45) (body := body) (l := used n) (te := te) (gl := gl) (n := ⟨1, 62⟩) (cut := []) (keep := keep) (T := tab ((List Int) × Bool) n) (dr := dr) Tryd.func45 (by kernel_rfl) (by kernel_rfl) te_ok (by kernel_rfl) (by kernel_rfl) hl (show Cov _ (env n) (tab ((List Int) × Bool) n) body from ⟨trivial, ⟨trivial, ⟨trivial, ⟨⟨trivial, lp4_ok n hl⟩, ⟨rg20_ok n hl, trivial⟩⟩⟩⟩⟩) dr_ok (fun a => ⟨rfl, rfl⟩) (run n)
theorem all_ok (n : Nat) : EntOK Tryd.prog gl (ent n) := ok n trivial
end W_plane_linesOf
namespace W_design_sets
noncomputable def body : Code := Tryd.f43.body.getD .skip
def keep : List (Nat × List Nat) := [(3, [3, 10, 11, 12]), (7, [3, 6, 10, 11, 12, 16, 17, 18])]
noncomputable def used (_n : Nat) : List Ent := []
noncomputable def env (n : Nat) : Env := envOf te gl (used n) ⟨1, 33⟩ [] keep
def F7 (c : (List Int) × (List (List Int)) × Int × Int × (List Int) × Int) (s : Int × Int) : Fr := [(3, .ow 77 (.ints .u64 c.1)), (6, .pv (.int .u64 s.1)), (10, .ls (.rows c.2.1)), (11, .pv (.int .i64 c.2.2.1)), (12, .pv (.int .i64 c.2.2.2.1)), (16, .sl (.ints .i64 c.2.2.2.2.1)), (17, .pv (.int .i64 c.2.2.2.2.2)), (18, .pv (.int .i64 s.2))]
def d7 : Fr → Option (((List Int) × (List (List Int)) × Int × Int × (List Int) × Int) × (Int × Int))
  | [(3, .ow 77 (.ints .u64 out3)), (6, .pv (.int .u64 s_6)), (10, .ls (.rows t10)), (11, .pv (.int .i64 t11)), (12, .pv (.int .i64 t12)), (16, .sl (.ints .i64 t16)), (17, .pv (.int .i64 t17)), (18, .pv (.int .i64 t18))] => some ((out3, t10, t11, t12, t16, t17), (s_6, t18))
  | _ => none
def st7 {ρ : Type} (n : Nat) (c : (List Int) × (List (List Int)) × Int × Int × (List Int) × Int) (Ko : Exit → Fr → Option ρ) (s : Int × Int) (nx : (Int × Int) → Option ρ) : Option ρ :=
  Gm.design_sets_s7 n c.1 c.2.1 c.2.2.1 c.2.2.2.1 c.2.2.2.2.1 c.2.2.2.2.2 s.1 s.2 (fun a0 a1 => nx (a0, a1)) (fun (y0 : Int) => Ko (.exit 2) [(3, .ow 77 (.ints .u64 c.1)), (6, .pv (.int .u64 y0)), (10, .ls (.rows c.2.1)), (11, .pv (.int .i64 c.2.2.1)), (12, .pv (.int .i64 c.2.2.2.1))])
def F3 (c : (List (List Int)) × Int) (s : (List Int) × Int) : Fr := [(3, .ow 77 (.ints .u64 s.1)), (10, .ls (.rows c.1)), (11, .pv (.int .i64 c.2)), (12, .pv (.int .i64 s.2))]
def d3 : Fr → Option (((List (List Int)) × Int) × ((List Int) × Int))
  | [(3, .ow 77 (.ints .u64 out3)), (10, .ls (.rows t10)), (11, .pv (.int .i64 t11)), (12, .pv (.int .i64 t12))] => some ((t10, t11), (out3, t12))
  | _ => none
def st3 {ρ : Type} (n : Nat) (c : (List (List Int)) × Int) (Ko : Exit → Fr → Option ρ) (s : (List Int) × Int) (nx : ((List Int) × Int) → Option ρ) : Option ρ :=
  Gm.design_sets_s3 n c.1 c.2 s.1 s.2 (fun a0 a1 => nx (a0, a1)) (fun (y0 : List Int) => Ko (.exit 0) [(3, .ow 77 (.ints .u64 y0))])
noncomputable def tab (ρ : Type) (n : Nat) : Tab ρ := { live := [(0, [1]), (1, [1, 3]), (2, [3, 10, 11, 12]), (3, [3, 10, 11, 12, 13]), (4, [3, 5, 10, 11, 12]), (5, [3, 5, 6, 10, 11, 12]), (6, [3, 6, 10, 11, 12, 16, 17, 18]), (7, [3, 6, 10, 11, 12, 16, 17, 18, 19]), (8, [3, 6, 8, 10, 11, 12, 16, 17, 18]), (9, [3, 6, 10, 11, 12, 16, 17, 18]), (10, [3, 6, 10, 11, 12, 16, 17, 18]), (11, [3, 10, 11, 12]), (12, [3, 10, 11, 12]), (13, [2, 3])], xl := [(0, [3]), (1, [3, 10, 11, 12]), (2, [3, 6, 10, 11, 12]), (3, [3, 6, 10, 11, 12, 16, 17, 18])], rl := [2, 3], fz := [], jp := [], lp := [(7, fun A Ko => bnd (d7 A) fun p => iterM (st7 n p.1 Ko) n p.2), (3, fun A Ko => bnd (d3 A) fun p => iterM (st3 n p.1 Ko) n p.2)] }
noncomputable def b7 : Code := (cL (cB (c2 (c1 (c2 (c2 (cB (c1 (c2 (c2 (cL (cB (c2 (c1 (c2 (c2 body))))))))))))))))
theorem d7_ok (A : Fr) (c : (List Int) × (List (List Int)) × Int × Int × (List Int) × Int) (s : Int × Int) (h : d7 A = some (c, s)) : A = F7 c s := by
  unfold d7 at h
  split at h
  · cases h; rfl
  · cases h
theorem step7 (ρ : Type) (n : Nat) (c : (List Int) × (List (List Int)) × Int × Int × (List Int) × Int) (Ko : Exit → Fr → Option ρ) (s : Int × Int) (nx : ((List Int) × (List (List Int)) × Int × Int × (List Int) × Int) → (Int × Int) → Option ρ) :
    AEO (env n) (answers ρ (used n) (used n)) (tab ρ n) b7 (F7 c s) (thenO (fun A => bnd (d7 (restr (keepOf (env n) b7) A)) fun p => nx p.1 p.2) Ko) = st7 n c Ko s (nx c) := by kernel_rfl
theorem lp7_ok {ρ : Type} (n : Nat) (hl : EntsOK Tryd.prog gl (used n)) : ∀ (A : Fr) (Ko : Exit → Fr → Option ρ) (r : ρ) (K : Exit → Fr → Prop), (bnd (d7 (restr (keepOf (env n) b7) A)) fun p => iterM (st7 n p.1 Ko) n p.2) = some r → (∀ e A, Ko e A = some r → K e A) → Gx.Sem Tryd.prog (env n) (.loop b7) A K :=
  fun A Ko r K h hk => loop_cod (P := Tryd.prog) (E := env n) (T := tab ρ n) (fun _ _ _ h => answers_ok h) F7 d7 (st7 n) d7_ok (show Cov _ (env n) (tab ρ n) b7 from ⟨trivial, ⟨⟨trivial, trivial⟩, ⟨⟨trivial, trivial⟩, trivial⟩⟩⟩) (fun c Ko s nx => step7 ρ n c Ko s nx) n A Ko r K h hk
noncomputable def b3 : Code := (cL (cB (c2 (c1 (c2 (c2 body))))))
theorem d3_ok (A : Fr) (c : (List (List Int)) × Int) (s : (List Int) × Int) (h : d3 A = some (c, s)) : A = F3 c s := by
  unfold d3 at h
  split at h
  · cases h; rfl
  · cases h
theorem step3 (ρ : Type) (n : Nat) (c : (List (List Int)) × Int) (Ko : Exit → Fr → Option ρ) (s : (List Int) × Int) (nx : ((List (List Int)) × Int) → ((List Int) × Int) → Option ρ) :
    AEO (env n) (answers ρ (used n) (used n)) (tab ρ n) b3 (F3 c s) (thenO (fun A => bnd (d3 (restr (keepOf (env n) b3) A)) fun p => nx p.1 p.2) Ko) = st3 n c Ko s (nx c) := by kernel_rfl
theorem lp3_ok {ρ : Type} (n : Nat) (hl : EntsOK Tryd.prog gl (used n)) : ∀ (A : Fr) (Ko : Exit → Fr → Option ρ) (r : ρ) (K : Exit → Fr → Prop), (bnd (d3 (restr (keepOf (env n) b3) A)) fun p => iterM (st3 n p.1 Ko) n p.2) = some r → (∀ e A, Ko e A = some r → K e A) → Gx.Sem Tryd.prog (env n) (.loop b3) A K :=
  fun A Ko r K h hk => loop_cod (P := Tryd.prog) (E := env n) (T := tab ρ n) (fun _ _ _ h => answers_ok h) F3 d3 (st3 n) d3_ok (show Cov _ (env n) (tab ρ n) b3 from ⟨trivial, ⟨⟨trivial, trivial⟩, ⟨⟨trivial, ⟨trivial, ⟨⟨trivial, lp7_ok n hl⟩, trivial⟩⟩⟩, trivial⟩⟩⟩) (fun c Ko s nx => step3 ρ n c Ko s nx) n A Ko r K h hk
def enc (a : Int × (List (List Int))) : List AV := [.ag [.pv (.int .i64 a.1), .ls (.rows a.2)]]
def dec : List AV → Option (Int × (List (List Int)))
  | [.ag [.pv (.int .i64 d0_0), .ls (.rows d0_1)]] => some (d0_0, d0_1)
  | _ => none
def emb (b : List Int) : AV × List AV := (.ow 77 (.ints .u64 b), [])
def dr : AV → List AV → Option (List Int)
  | .ow 77 (.ints .u64 r0), [] => some r0
  | _, _ => none
theorem dec_ok (vs : List AV) (a : Int × (List (List Int))) (h : dec vs = some a) : vs = enc a := by
  unfold dec at h
  split at h
  · cases h; rfl
  · cases h
theorem dr_ok (v : AV) (o : List AV) (b : List Int) (h : dr v o = some b) : emb b = (v, o) := by
  unfold dr at h
  split at h
  · cases h; rfl
  · cases h
noncomputable def ent (n : Nat) : Ent := { f := 43, ms := [.lend], α := Int × (List (List Int)), β := List Int, dec := dec, enc := enc, emb := emb, m := fun a => Gm.design_sets n a.1 a.2, hdec := dec_ok }
theorem run (n : Nat) (a : Int × (List (List Int))) : AEO (env n) (answers (List Int) (used n) (used n)) (tab (List Int) n) body (frameOf (enc a) 0) (bodyO (env n) Tryd.f43.results.toList (enc a) dr) = (ent n).m a := by kernel_rfl
theorem ok (n : Nat) (hl : EntsOK Tryd.prog gl (used n)) : EntOK Tryd.prog gl (ent n) :=
  fnO_sound (P := Tryd.prog) (e := ent n) (fn := Tryd.f43) (body := body) (l := used n) (te := te) (gl := gl) (n := ⟨1, 33⟩) (cut := []) (keep := keep) (T := tab (List Int) n) (dr := dr) Tryd.func43 (by kernel_rfl) (by kernel_rfl) te_ok (by kernel_rfl) (by kernel_rfl) hl (show Cov _ (env n) (tab (List Int) n) body from ⟨trivial, ⟨trivial, ⟨⟨trivial, lp3_ok n hl⟩, ⟨trivial, trivial⟩⟩⟩⟩) dr_ok (fun a => ⟨rfl, rfl⟩) (run n)
theorem all_ok (n : Nat) : EntOK Tryd.prog gl (ent n) := ok n trivial
end W_design_sets
namespace W_math_bits_OnesCount64
noncomputable def body : Code := Tryd.f90.body.getD .skip
def keep : List (Nat × List Nat) := []
noncomputable def used (_n : Nat) : List Ent := []
noncomputable def env (n : Nat) : Env := envOf te gl (used n) ⟨0, 35⟩ [] keep
noncomputable def tab (ρ : Type) (_n : Nat) : Tab ρ := { live := [(0, [0]), (1, [0]), (2, [0]), (3, [0]), (4, [0]), (5, [0]), (6, [0]), (7, [2])], xl := [], rl := [2], fz := [], jp := [], lp := [] }
def enc (a : Int) : List AV := [.pv (.int .u64 a)]
def dec : List AV → Option (Int)
  | [.pv (.int .u64 x0)] => some x0
  | _ => none
def emb (b : Int) : AV × List AV := (.pv (.int .i64 b), [])
def dr : AV → List AV → Option (Int)
  | .pv (.int .i64 r0), [] => some r0
  | _, _ => none
theorem dec_ok (vs : List AV) (a : Int) (h : dec vs = some a) : vs = enc a := by
  unfold dec at h
  split at h
  · cases h; rfl
  · cases h
theorem dr_ok (v : AV) (o : List AV) (b : Int) (h : dr v o = some b) : emb b = (v, o) := by
  unfold dr at h
  split at h
  · cases h; rfl
  · cases h
noncomputable def ent (n : Nat) : Ent := { f := 90, ms := [.lend], α := Int, β := Int, dec := dec, enc := enc, emb := emb, m := fun a => Gm.math_bits_OnesCount64 n a, hdec := dec_ok }
theorem run (n : Nat) (a : Int) : AEO (env n) (answers (Int) (used n) (used n)) (tab (Int) n) body (frameOf (enc a) 0) (bodyO (env n) Tryd.f90.results.toList (enc a) dr) = (ent n).m a := by kernel_rfl
theorem ok (n : Nat) (hl : EntsOK Tryd.prog gl (used n)) : EntOK Tryd.prog gl (ent n) :=
  fnO_sound (P := Tryd.prog) (e := ent n) (fn := Tryd.f90) (body := body) (l := used n) (te := te) (gl := gl) (n := ⟨0, 35⟩) (cut := []) (keep := keep) (T := tab (Int) n) (dr := dr) Tryd.func90 (by kernel_rfl) (by kernel_rfl) te_ok (by kernel_rfl) (by kernel_rfl) hl (show Cov _ (env n) (tab (Int) n) body from ⟨trivial, ⟨trivial, ⟨trivial, ⟨trivial, ⟨trivial, ⟨trivial, ⟨trivial, ⟨trivial, trivial⟩⟩⟩⟩⟩⟩⟩⟩) dr_ok (fun a => ⟨rfl, rfl⟩) (run n)
theorem all_ok (n : Nat) : EntOK Tryd.prog gl (ent n) := ok n trivial
end W_math_bits_OnesCount64
namespace W_slices_Index_intint
noncomputable def body : Code := Tryd.f118.body.getD .skip
def keep : List (Nat × List Nat) := [(2, [0, 1, 7, 8])]
noncomputable def used (_n : Nat) : List Ent := []
noncomputable def env (n : Nat) : Env := envOf te gl (used n) ⟨4, 19⟩ [] keep
def F2 (c : (List Int) × Int × Int) (s : Int) : Fr := [(0, .ls (.ints .i64 c.1)), (1, .pv (.int .i64 c.2.1)), (7, .pv (.int .i64 c.2.2)), (8, .pv (.int .i64 s))]
def d2 : Fr → Option (((List Int) × Int × Int) × (Int))
  | [(0, .ls (.ints .i64 s_0)), (1, .pv (.int .i64 v1)), (7, .pv (.int .i64 t7)), (8, .pv (.int .i64 t8))] => some ((s_0, v1, t7), t8)
  | _ => none
def st2 {ρ : Type} (n : Nat) (c : (List Int) × Int × Int) (Ko : Exit → Fr → Option ρ) (s : Int) (nx : Int → Option ρ) : Option ρ :=
  Gm.slices_Index_intint_s2 n c.1 c.2.1 c.2.2 s nx (fun (y0 : Int) => Ko .ret [(4, .pv (.int .i64 y0))]) (Ko (.exit 0) [])
noncomputable def tab (ρ : Type) (n : Nat) : Tab ρ := { live := [(0, [0, 1]), (1, [0, 1, 7, 8]), (2, [0, 1, 7, 8, 9]), (3, [0, 1, 5, 7, 8]), (4, [0, 1, 5, 7, 8, 16]), (5, [4]), (6, [0, 1, 7, 8]), (7, [4])], xl := [(0, []), (1, [0, 1, 7, 8])], rl := [4], fz := [], jp := [], lp := [(2, fun A Ko => bnd (d2 A) fun p => iterM (st2 n p.1 Ko) n p.2)] }
noncomputable def b2 : Code := (cL (cB (c2 (c1 (c2 body)))))
theorem d2_ok (A : Fr) (c : (List Int) × Int × Int) (s : Int) (h : d2 A = some (c, s)) : A = F2 c s := by
  unfold d2 at h
  split at h
  · cases h; rfl
  · cases h
theorem step2 (ρ : Type) (n : Nat) (c : (List Int) × Int × Int) (Ko : Exit → Fr → Option ρ) (s : Int) (nx : ((List Int) × Int × Int) → (Int) → Option ρ) :
    AEO (env n) (answers ρ (used n) (used n)) (tab ρ n) b2 (F2 c s) (thenO (fun A => bnd (d2 (restr (keepOf (env n) b2) A)) fun p => nx p.1 p.2) Ko) = st2 n c Ko s (nx c) := by kernel_rfl
theorem lp2_ok {ρ : Type} (n : Nat) (hl : EntsOK Tryd.prog gl (used n)) : ∀ (A : Fr) (Ko : Exit → Fr → Option ρ) (r : ρ) (K : Exit → Fr → Prop), (bnd (d2 (restr (keepOf (env n) b2) A)) fun p => iterM (st2 n p.1 Ko) n p.2) = some r → (∀ e A, Ko e A = some r → K e A) → Gx.Sem Tryd.prog (env n) (.loop b2) A K :=
  fun A Ko r K h hk => loop_cod (P := Tryd.prog) (E := env n) (T := tab ρ n) (fun _ _ _ h => answers_ok h) F2 d2 (st2 n) d2_ok (show Cov _ (env n) (tab ρ n) b2 from ⟨trivial, ⟨⟨trivial, trivial⟩, ⟨⟨trivial, ⟨trivial, ⟨⟨trivial, trivial⟩, trivial⟩⟩⟩, trivial⟩⟩⟩) (fun c Ko s nx => step2 ρ n c Ko s nx) n A Ko r K h hk
def enc (a : (List Int) × Int) : List AV := [.ls (.ints .i64 a.1), .pv (.int .i64 a.2)]
def dec : List AV → Option ((List Int) × Int)
  | [.ls (.ints .i64 s_0), .pv (.int .i64 v1)] => some (s_0, v1)
  | _ => none
def emb (b : Int) : AV × List AV := (.pv (.int .i64 b), [])
def dr : AV → List AV → Option (Int)
  | .pv (.int .i64 r0), [] => some r0
  | _, _ => none
theorem dec_ok (vs : List AV) (a : (List Int) × Int) (h : dec vs = some a) : vs = enc a := by
  unfold dec at h
  split at h
  · cases h; rfl
  · cases h
theorem dr_ok (v : AV) (o : List AV) (b : Int) (h : dr v o = some b) : emb b = (v, o) := by
  unfold dr at h
  split at h
  · cases h; rfl
  · cases h
noncomputable def ent (n : Nat) : Ent := { f := 118, ms := [.lend, .lend], α := (List Int) × Int, β := Int, dec := dec, enc := enc, emb := emb, m := fun a => Gm.slices_Index_intint n a.1 a.2, hdec := dec_ok }
theorem run (n : Nat) (a : (List Int) × Int) : AEO (env n) (answers (Int) (used n) (used n)) (tab (Int) n) body (frameOf (enc a) 0) (bodyO (env n) Tryd.f118.results.toList (enc a) dr) = (ent n).m a := by kernel_rfl
theorem ok (n : Nat) (hl : EntsOK Tryd.prog gl (used n)) : EntOK Tryd.prog gl (ent n) :=
  fnO_sound (P := Tryd.prog) (e := ent n) (fn := Tryd.f118) (body := body) (l := used n) (te := te) (gl := gl) (n := ⟨4, 19⟩) (cut := []) (keep := keep) (T := tab (Int) n) (dr := dr) Tryd.func118 (by kernel_rfl) (by kernel_rfl) te_ok (by kernel_rfl) (by kernel_rfl) hl (show Cov _ (env n) (tab (Int) n) body from ⟨trivial, ⟨⟨trivial, lp2_ok n hl⟩, ⟨trivial, trivial⟩⟩⟩) dr_ok (fun a => ⟨rfl, rfl⟩) (run n)
theorem all_ok (n : Nat) : EntOK Tryd.prog gl (ent n) := ok n trivial
end W_slices_Index_intint
namespace W_slices_Contains_intint
noncomputable def body : Code := Tryd.f91.body.getD .skip
def keep : List (Nat × List Nat) := []
noncomputable def used (n : Nat) : List Ent := [W_slices_Index_intint.ent n]
noncomputable def env (n : Nat) : Env := envOf te gl (used n) ⟨4, 9⟩ [] keep
noncomputable def tab (ρ : Type) (_n : Nat) : Tab ρ := { live := [(0, [0, 1]), (1, [4])], xl := [], rl := [4], fz := [], jp := [], lp := [] }
def enc (a : (List Int) × Int) : List AV := [.ls (.ints .i64 a.1), .pv (.int .i64 a.2)]
def dec : List AV → Option ((List Int) × Int)
  | [.ls (.ints .i64 s_0), .pv (.int .i64 v1)] => some (s_0, v1)
  | _ => none
def emb (b : Bool) : AV × List AV := (.pv (.bool b), [])
def dr : AV → List AV → Option (Bool)
  | .pv (.bool r0), [] => some r0
  | _, _ => none
theorem dec_ok (vs : List AV) (a : (List Int) × Int) (h : dec vs = some a) : vs = enc a := by
  unfold dec at h
  split at h
  · cases h; rfl
  · cases h
theorem dr_ok (v : AV) (o : List AV) (b : Bool) (h : dr v o = some b) : emb b = (v, o) := by
  unfold dr at h
  split at h
  · cases h; rfl
  · cases h
noncomputable def ent (n : Nat) : Ent := { f := 91, ms := [.lend, .lend], α := (List Int) × Int, β := Bool, dec := dec, enc := enc, emb := emb, m := fun a => Gm.slices_Contains_intint n a.1 a.2, hdec := dec_ok }
theorem run (n : Nat) (a : (List Int) × Int) : AEO (env n) (answers (Bool) (used n) (used n)) (tab (Bool) n) body (frameOf (enc a) 0) (bodyO (env n) Tryd.f91.results.toList (enc a) dr) = (ent n).m a := by kernel_rfl
theorem ok (n : Nat) (hl : EntsOK Tryd.prog gl (used n)) : EntOK Tryd.prog gl (ent n) :=
  fnO_sound (P := Tryd.prog) (e := ent n) (fn := Tryd.f91) (body := body) (l := used n) (te := te) (gl := gl) (n := ⟨4, 9⟩) (cut := []) (keep := keep) (T := tab (Bool) n) (dr := dr) Tryd.func91 (by kernel_rfl) (by kernel_rfl) te_ok (by kernel_rfl) (by kernel_rfl) hl (show Cov _ (env n) (tab (Bool) n) body from ⟨trivial, ⟨trivial, trivial⟩⟩) dr_ok (fun a => ⟨rfl, rfl⟩) (run n)
theorem all_ok (n : Nat) : EntOK Tryd.prog gl (ent n) := ok n ⟨W_slices_Index_intint.all_ok n, trivial⟩
end W_slices_Contains_intint
namespace W_design_Meets
noncomputable def body : Code := Tryd.f46.body.getD .skip
def keep : List (Nat × List Nat) := [(7, [5, 6, 19, 20, 21]), (10, [5, 6, 8, 19, 20, 21, 28, 29, 30])]
noncomputable def used (n : Nat) : List Ent := [W_design_Check.ent n, W_design_sets.ent n, W_math_bits_OnesCount64.ent n, W_slices_Contains_intint.ent n, W_slices_Sort.ent n]
noncomputable def env (n : Nat) : Env := envOf te gl (used n) ⟨1, 51⟩ [] keep
def F10 (c : (List Int) × Int × (List Int) × Int × Int × (List Int) × Int) (s : (List Int) × Int) : Fr := [(5, .ow 3 (.ints .i64 s.1)), (6, .sl (.ints .u64 c.1)), (8, .pv (.int .u64 c.2.1)), (19, .sl (.ints .u64 c.2.2.1)), (20, .pv (.int .i64 c.2.2.2.1)), (21, .pv (.int .i64 c.2.2.2.2.1)), (28, .sl (.ints .u64 c.2.2.2.2.2.1)), (29, .pv (.int .i64 c.2.2.2.2.2.2)), (30, .pv (.int .i64 s.2))]
def d10 : Fr → Option (((List Int) × Int × (List Int) × Int × Int × (List Int) × Int) × ((List Int) × Int))
  | [(5, .ow 3 (.ints .i64 out5)), (6, .sl (.ints .u64 all6)), (8, .pv (.int .u64 a8)), (19, .sl (.ints .u64 t19)), (20, .pv (.int .i64 t20)), (21, .pv (.int .i64 t21)), (28, .sl (.ints .u64 t28)), (29, .pv (.int .i64 t29)), (30, .pv (.int .i64 t30))] => some ((all6, a8, t19, t20, t21, t28, t29), (out5, t30))
  | _ => none
def st10 {ρ : Type} (n : Nat) (c : (List Int) × Int × (List Int) × Int × Int × (List Int) × Int) (Ko : Exit → Fr → Option ρ) (s : (List Int) × Int) (nx : ((List Int) × Int) → Option ρ) : Option ρ :=
  Gm.design_Meets_s10 n c.1 c.2.1 c.2.2.1 c.2.2.2.1 c.2.2.2.2.1 c.2.2.2.2.2.1 c.2.2.2.2.2.2 s.1 s.2 (fun a0 a1 => nx (a0, a1)) (fun (y0 : List Int) => Ko (.exit 2) [(5, .ow 3 (.ints .i64 y0)), (6, .sl (.ints .u64 c.1)), (19, .sl (.ints .u64 c.2.2.1)), (20, .pv (.int .i64 c.2.2.2.1)), (21, .pv (.int .i64 c.2.2.2.2.1))])
def F7 (c : (List Int) × (List Int) × Int) (s : (List Int) × Int) : Fr := [(5, .ow 3 (.ints .i64 s.1)), (6, .sl (.ints .u64 c.1)), (19, .sl (.ints .u64 c.2.1)), (20, .pv (.int .i64 c.2.2)), (21, .pv (.int .i64 s.2))]
def d7 : Fr → Option (((List Int) × (List Int) × Int) × ((List Int) × Int))
  | [(5, .ow 3 (.ints .i64 out5)), (6, .sl (.ints .u64 all6)), (19, .sl (.ints .u64 t19)), (20, .pv (.int .i64 t20)), (21, .pv (.int .i64 t21))] => some ((all6, t19, t20), (out5, t21))
  | _ => none
def st7 {ρ : Type} (n : Nat) (c : (List Int) × (List Int) × Int) (Ko : Exit → Fr → Option ρ) (s : (List Int) × Int) (nx : ((List Int) × Int) → Option ρ) : Option ρ :=
  Gm.design_Meets_s7 n c.1 c.2.1 c.2.2 s.1 s.2 (fun a0 a1 => nx (a0, a1)) (fun (y0 : List Int) => Ko (.exit 0) [(5, .ow 3 (.ints .i64 y0))])
noncomputable def tab (ρ : Type) (n : Nat) : Tab ρ := { live := [(0, [1]), (1, [1, 4]), (2, [1, 4, 15]), (3, [2, 3]), (4, [1, 5]), (5, [5, 6]), (6, [5, 6, 19, 20, 21]), (7, [5, 6, 19, 20, 21, 22]), (8, [5, 6, 7, 8, 19, 20, 21]), (9, [5, 6, 8, 19, 20, 21, 28, 29, 30]), (10, [5, 6, 8, 19, 20, 21, 28, 29, 30, 31]), (11, [5, 6, 8, 10, 19, 20, 21, 28, 29, 30]), (12, [5, 6, 8, 11, 19, 20, 21, 28, 29, 30]), (13, [5, 6, 8, 11, 19, 20, 21, 28, 29, 30, 41]), (14, [5, 6, 8, 19, 20, 21, 28, 29, 30]), (15, [5, 6, 8, 19, 20, 21, 28, 29, 30]), (16, [5, 6, 19, 20, 21]), (17, [5]), (18, [2, 3, 5])], xl := [(0, [5]), (1, [5, 6, 19, 20, 21]), (2, [5, 6, 19, 20, 21]), (3, [5, 6, 8, 19, 20, 21, 28, 29, 30])], rl := [2, 3, 5], fz := [(7, [19])], jp := [], lp := [(10, fun A Ko => bnd (d10 A) fun p => iterM (st10 n p.1 Ko) n p.2), (7, fun A Ko => bnd (d7 A) fun p => iterM (st7 n p.1 Ko) n p.2)] }
noncomputable def b10 : Code := (cL (cB (c2 (c2 (cB (c1 (c2 (c2 (cL (cB (c2 (c1 (c2 (c2 (c2 (c2 body))))))))))))))))
theorem d10_ok (A : Fr) (c : (List Int) × Int × (List Int) × Int × Int × (List Int) × Int) (s : (List Int) × Int) (h : d10 A = some (c, s)) : A = F10 c s := by
  unfold d10 at h
  split at h
  · cases h; rfl
  · cases h
theorem step10 (ρ : Type) (n : Nat) (c : (List Int) × Int × (List Int) × Int × Int × (List Int) × Int) (Ko : Exit → Fr → Option ρ) (s : (List Int) × Int) (nx : ((List Int) × Int × (List Int) × Int × Int × (List Int) × Int) → ((List Int) × Int) → Option ρ) :
    AEO (env n) (answers ρ (used n) (used n)) (tab ρ n) b10 (F10 c s) (thenO (fun A => bnd (d10 (restr (keepOf (env n) b10) A)) fun p => nx p.1 p.2) Ko) = st10 n c Ko s (nx c) := by kernel_rfl
theorem lp10_ok {ρ : Type} (n : Nat) (hl : EntsOK Tryd.prog gl (used n)) : ∀ (A : Fr) (Ko : Exit → Fr → Option ρ) (r : ρ) (K : Exit → Fr → Prop), (bnd (d10 (restr (keepOf (env n) b10) A)) fun p => iterM (st10 n p.1 Ko) n p.2) = some r → (∀ e A, Ko e A = some r → K e A) → Gx.Sem Tryd.prog (env n) (.loop b10) A K :=
  fun A Ko r K h hk => loop_cod (P := Tryd.prog) (E := env n) (T := tab ρ n) (fun _ _ _ h => answers_ok h) F10 d10 (st10 n) d10_ok (show Cov _ (env n) (tab ρ n) b10 from ⟨trivial, ⟨⟨trivial, trivial⟩, ⟨⟨trivial, ⟨trivial, ⟨trivial, ⟨trivial, trivial⟩⟩⟩⟩, trivial⟩⟩⟩) (fun c Ko s nx => step10 ρ n c Ko s nx) n A Ko r K h hk
noncomputable def b7 : Code := (cL (cB (c2 (c1 (c2 (c2 (c2 (c2 body))))))))
theorem d7_ok (A : Fr) (c : (List Int) × (List Int) × Int) (s : (List Int) × Int) (h : d7 A = some (c, s)) : A = F7 c s := by
  unfold d7 at h
  split at h
  · cases h; rfl
  · cases h
theorem step7 (ρ : Type) (n : Nat) (c : (List Int) × (List Int) × Int) (Ko : Exit → Fr → Option ρ) (s : (List Int) × Int) (nx : ((List Int) × (List Int) × Int) → ((List Int) × Int) → Option ρ) :
    AEO (env n) (answers ρ (used n) (used n)) (tab ρ n) b7 (F7 c s) (thenO (fun A => bnd (d7 (restr (keepOf (env n) b7) A)) fun p => nx p.1 p.2) Ko) = st7 n c Ko s (nx c) := by kernel_rfl
theorem lp7_ok {ρ : Type} (n : Nat) (hl : EntsOK Tryd.prog gl (used n)) : ∀ (A : Fr) (Ko : Exit → Fr → Option ρ) (r : ρ) (K : Exit → Fr → Prop), (bnd (d7 (restr (keepOf (env n) b7) A)) fun p => iterM (st7 n p.1 Ko) n p.2) = some r → (∀ e A, Ko e A = some r → K e A) → Gx.Sem Tryd.prog (env n) (.loop b7) A K :=
  fun A Ko r K h hk => loop_cod (P := Tryd.prog) (E := env n) (T := tab ρ n) (fun _ _ _ h => answers_ok h) F7 d7 (st7 n) d7_ok (show Cov _ (env n) (tab ρ n) b7 from ⟨trivial, ⟨⟨trivial, trivial⟩, ⟨⟨trivial, ⟨trivial, lp10_ok n hl⟩⟩, trivial⟩⟩⟩) (fun c Ko s nx => step7 ρ n c Ko s nx) n A Ko r K h hk
def enc (a : Int × (List (List Int))) : List AV := [.ag [.pv (.int .i64 a.1), .ls (.rows a.2)]]
def dec : List AV → Option (Int × (List (List Int)))
  | [.ag [.pv (.int .i64 d0_0), .ls (.rows d0_1)]] => some (d0_0, d0_1)
  | _ => none
def emb (b : (List Int) × Int) : AV × List AV := (.tp [.sl (.ints .i64 b.1), .pv (.int .i64 b.2)], [])
def dr : AV → List AV → Option ((List Int) × Int)
  | .tp [.sl (.ints .i64 r0), .pv (.int .i64 r1)], [] => some (r0, r1)
  | _, _ => none
theorem dec_ok (vs : List AV) (a : Int × (List (List Int))) (h : dec vs = some a) : vs = enc a := by
  unfold dec at h
  split at h
  · cases h; rfl
  · cases h
theorem dr_ok (v : AV) (o : List AV) (b : (List Int) × Int) (h : dr v o = some b) : emb b = (v, o) := by
  unfold dr at h
  split at h
  · cases h; rfl
  · cases h
noncomputable def ent (n : Nat) : Ent := { f := 46, ms := [.lend], α := Int × (List (List Int)), β := (List Int) × Int, dec := dec, enc := enc, emb := emb, m := fun a => Gm.design_Meets n a.1 a.2, hdec := dec_ok }
theorem run (n : Nat) (a : Int × (List (List Int))) : AEO (env n) (answers ((List Int) × Int) (used n) (used n)) (tab ((List Int) × Int) n) body (frameOf (enc a) 0) (bodyO (env n) Tryd.f46.results.toList (enc a) dr) = (ent n).m a := by kernel_rfl
theorem ok (n : Nat) (hl : EntsOK Tryd.prog gl (used n)) : EntOK Tryd.prog gl (ent n) :=
  fnO_sound (P := Tryd.prog) (e := ent n) (fn := Tryd.f46) (body := body) (l := used n) (te := te) (gl := gl) (n := ⟨1, 51⟩) (cut := []) (keep := keep) (T := tab ((List Int) × Int) n) (dr := dr) Tryd.func46 (by kernel_rfl) (by kernel_rfl) te_ok (by kernel_rfl) (by kernel_rfl) hl (show Cov _ (env n) (tab ((List Int) × Int) n) body from ⟨trivial, ⟨⟨trivial, ⟨trivial, ⟨⟨trivial, trivial⟩, trivial⟩⟩⟩, ⟨trivial, ⟨trivial, ⟨⟨trivial, lp7_ok n hl⟩, ⟨trivial, ⟨trivial, trivial⟩⟩⟩⟩⟩⟩⟩) dr_ok (fun a => ⟨rfl, rfl⟩) (run n)
theorem all_ok (n : Nat) : EntOK Tryd.prog gl (ent n) := ok n ⟨W_design_Check.all_ok n, W_design_sets.all_ok n, W_math_bits_OnesCount64.all_ok n, W_slices_Contains_intint.all_ok n, W_slices_Sort.all_ok n, trivial⟩
end W_design_Meets
namespace W_slices_Equal_intint
noncomputable def body : Code := Tryd.f47.body.getD .skip
def keep : List (Nat × List Nat) := [(4, [0, 1, 12, 13])]
noncomputable def used (_n : Nat) : List Ent := []
noncomputable def env (n : Nat) : Env := envOf te gl (used n) ⟨4, 26⟩ [] keep
def F4 (c : (List Int) × (List Int) × Int) (s : Int) : Fr := [(0, .ls (.ints .i64 c.1)), (1, .ls (.ints .i64 c.2.1)), (12, .pv (.int .i64 c.2.2)), (13, .pv (.int .i64 s))]
def d4 : Fr → Option (((List Int) × (List Int) × Int) × (Int))
  | [(0, .ls (.ints .i64 s10)), (1, .ls (.ints .i64 s21)), (12, .pv (.int .i64 t12)), (13, .pv (.int .i64 t13))] => some ((s10, s21, t12), t13)
  | _ => none
def st4 {ρ : Type} (n : Nat) (c : (List Int) × (List Int) × Int) (Ko : Exit → Fr → Option ρ) (s : Int) (nx : Int → Option ρ) : Option ρ :=
  Gm.slices_Equal_intint_s4 n c.1 c.2.1 c.2.2 s nx (Ko .ret [(4, .pv (.bool false))]) (Ko (.exit 0) [])
noncomputable def tab (ρ : Type) (n : Nat) : Tab ρ := { live := [(0, [0, 1]), (1, [0, 1, 10]), (2, [4]), (3, [0, 1, 12, 13]), (4, [0, 1, 12, 13, 14]), (5, [0, 1, 5, 12, 13]), (6, [0, 1, 12, 13, 24]), (7, [4]), (8, [0, 1, 12, 13]), (9, [4])], xl := [(0, []), (1, [0, 1, 12, 13])], rl := [4], fz := [], jp := [], lp := [(4, fun A Ko => bnd (d4 A) fun p => iterM (st4 n p.1 Ko) n p.2)] }
noncomputable def b4 : Code := (cL (cB (c2 (c1 (c2 (c2 body))))))
theorem d4_ok (A : Fr) (c : (List Int) × (List Int) × Int) (s : Int) (h : d4 A = some (c, s)) : A = F4 c s := by
  unfold d4 at h
  split at h
  · cases h; rfl
  · cases h
theorem step4 (ρ : Type) (n : Nat) (c : (List Int) × (List Int) × Int) (Ko : Exit → Fr → Option ρ) (s : Int) (nx : ((List Int) × (List Int) × Int) → (Int) → Option ρ) :
    AEO (env n) (answers ρ (used n) (used n)) (tab ρ n) b4 (F4 c s) (thenO (fun A => bnd (d4 (restr (keepOf (env n) b4) A)) fun p => nx p.1 p.2) Ko) = st4 n c Ko s (nx c) := by kernel_rfl
theorem lp4_ok {ρ : Type} (n : Nat) (hl : EntsOK Tryd.prog gl (used n)) : ∀ (A : Fr) (Ko : Exit → Fr → Option ρ) (r : ρ) (K : Exit → Fr → Prop), (bnd (d4 (restr (keepOf (env n) b4) A)) fun p => iterM (st4 n p.1 Ko) n p.2) = some r → (∀ e A, Ko e A = some r → K e A) → Gx.Sem Tryd.prog (env n) (.loop b4) A K :=
  fun A Ko r K h hk => loop_cod (P := Tryd.prog) (E := env n) (T := tab ρ n) (fun _ _ _ h => answers_ok h) F4 d4 (st4 n) d4_ok (show Cov _ (env n) (tab ρ n) b4 from ⟨trivial, ⟨⟨trivial, trivial⟩, ⟨⟨trivial, ⟨trivial, ⟨⟨trivial, trivial⟩, trivial⟩⟩⟩, trivial⟩⟩⟩) (fun c Ko s nx => step4 ρ n c Ko s nx) n A Ko r K h hk
def enc (a : (List Int) × (List Int)) : List AV := [.ls (.ints .i64 a.1), .ls (.ints .i64 a.2)]
def dec : List AV → Option ((List Int) × (List Int))
  | [.ls (.ints .i64 s10), .ls (.ints .i64 s21)] => some (s10, s21)
  | _ => none
def emb (b : Bool) : AV × List AV := (.pv (.bool b), [])
def dr : AV → List AV → Option (Bool)
  | .pv (.bool r0), [] => some r0
  | _, _ => none
theorem dec_ok (vs : List AV) (a : (List Int) × (List Int)) (h : dec vs = some a) : vs = enc a := by
  unfold dec at h
  split at h
  · cases h; rfl
  · cases h
theorem dr_ok (v : AV) (o : List AV) (b : Bool) (h : dr v o = some b) : emb b = (v, o) := by
  unfold dr at h
  split at h
  · cases h; rfl
  · cases h
noncomputable def ent (n : Nat) : Ent := { f := 47, ms := [.lend, .lend], α := (List Int) × (List Int), β := Bool, dec := dec, enc := enc, emb := emb, m := fun a => Gm.slices_Equal_intint n a.1 a.2, hdec := dec_ok }
theorem run (n : Nat) (a : (List Int) × (List Int)) : AEO (env n) (answers (Bool) (used n) (used n)) (tab (Bool) n) body (frameOf (enc a) 0) (bodyO (env n) Tryd.f47.results.toList (enc a) dr) = (ent n).m a := by kernel_rfl
theorem ok (n : Nat) (hl : EntsOK Tryd.prog gl (used n)) : EntOK Tryd.prog gl (ent n) :=
  fnO_sound (P := Tryd.prog) (e := ent n) (fn := Tryd.f47) (body := body) (l := used n) (te := te) (gl := gl) (n := ⟨4, 26⟩) (cut := []) (keep := keep) (T := tab (Bool) n) (dr := dr) Tryd.func47 (by kernel_rfl) (by kernel_rfl) te_ok (by kernel_rfl) (by kernel_rfl) hl (show Cov _ (env n) (tab (Bool) n) body from ⟨trivial, ⟨⟨trivial, ⟨⟨trivial, trivial⟩, trivial⟩⟩, ⟨⟨trivial, lp4_ok n hl⟩, ⟨trivial, trivial⟩⟩⟩⟩) dr_ok (fun a => ⟨rfl, rfl⟩) (run n)
theorem all_ok (n : Nat) : EntOK Tryd.prog gl (ent n) := ok n trivial
end W_slices_Equal_intint
namespace W_plane_four
noncomputable def body : Code := Tryd.f48.body.getD .skip
def keep : List (Nat × List Nat) := [(2, [3, 10, 11]), (5, [3, 5, 10, 11, 14, 15]), (8, [3, 5, 6, 10, 11, 14, 15, 18, 19]), (12, [3, 5, 6, 7, 10, 11, 14, 15, 18, 19, 33, 34])]
noncomputable def used (_n : Nat) : List Ent := []
noncomputable def env (n : Nat) : Env := envOf te gl (used n) ⟨2, 78⟩ [] keep
def F12 (c : (List Int) × Int × Int × Int × Int × Int × Int × Int × Int × Int × Int) (s : Int) : Fr := [(3, .ba (.ints .i64 c.1)), (5, .pv (.int .i64 c.2.1)), (6, .pv (.int .i64 c.2.2.1)), (7, .pv (.int .i64 c.2.2.2.1)), (10, .pv (.int .i64 c.2.2.2.2.1)), (11, .pv (.int .i64 c.2.2.2.2.2.1)), (14, .pv (.int .i64 c.2.2.2.2.2.2.1)), (15, .pv (.int .i64 c.2.2.2.2.2.2.2.1)), (18, .pv (.int .i64 c.2.2.2.2.2.2.2.2.1)), (19, .pv (.int .i64 c.2.2.2.2.2.2.2.2.2.1)), (33, .pv (.int .i64 c.2.2.2.2.2.2.2.2.2.2)), (34, .pv (.int .i64 s))]
def d12 : Fr → Option (((List Int) × Int × Int × Int × Int × Int × Int × Int × Int × Int × Int) × (Int))
  | [(3, .ba (.ints .i64 t3)), (5, .pv (.int .i64 t5)), (6, .pv (.int .i64 t6)), (7, .pv (.int .i64 t7)), (10, .pv (.int .i64 t10)), (11, .pv (.int .i64 t11)), (14, .pv (.int .i64 t14)), (15, .pv (.int .i64 t15)), (18, .pv (.int .i64 t18)), (19, .pv (.int .i64 t19)), (33, .pv (.int .i64 t33)), (34, .pv (.int .i64 t34))] => some ((t3, t5, t6, t7, t10, t11, t14, t15, t18, t19, t33), t34)
  | _ => none
def st12 {ρ : Type} (n : Nat) (c : (List Int) × Int × Int × Int × Int × Int × Int × Int × Int × Int × Int) (Ko : Exit → Fr → Option ρ) (s : Int) (nx : Int → Option ρ) : Option ρ :=
  Gm.plane_four_s12 n c.1 c.2.1 c.2.2.1 c.2.2.2.1 c.2.2.2.2.1 c.2.2.2.2.2.1 c.2.2.2.2.2.2.1 c.2.2.2.2.2.2.2.1 c.2.2.2.2.2.2.2.2.1 c.2.2.2.2.2.2.2.2.2.1 c.2.2.2.2.2.2.2.2.2.2 s nx (Ko .ret [(4, .pv (.bool true))]) (Ko (.exit 6) [(3, .ba (.ints .i64 c.1)), (5, .pv (.int .i64 c.2.1)), (6, .pv (.int .i64 c.2.2.1)), (10, .pv (.int .i64 c.2.2.2.2.1)), (11, .pv (.int .i64 c.2.2.2.2.2.1)), (14, .pv (.int .i64 c.2.2.2.2.2.2.1)), (15, .pv (.int .i64 c.2.2.2.2.2.2.2.1)), (18, .pv (.int .i64 c.2.2.2.2.2.2.2.2.1)), (19, .pv (.int .i64 c.2.2.2.2.2.2.2.2.2.1))])
def F8 (c : (List Int) × Int × Int × Int × Int × Int × Int × Int) (s : Int) : Fr := [(3, .ba (.ints .i64 c.1)), (5, .pv (.int .i64 c.2.1)), (6, .pv (.int .i64 c.2.2.1)), (10, .pv (.int .i64 c.2.2.2.1)), (11, .pv (.int .i64 c.2.2.2.2.1)), (14, .pv (.int .i64 c.2.2.2.2.2.1)), (15, .pv (.int .i64 c.2.2.2.2.2.2.1)), (18, .pv (.int .i64 c.2.2.2.2.2.2.2)), (19, .pv (.int .i64 s))]
def d8 : Fr → Option (((List Int) × Int × Int × Int × Int × Int × Int × Int) × (Int))
  | [(3, .ba (.ints .i64 t3)), (5, .pv (.int .i64 t5)), (6, .pv (.int .i64 t6)), (10, .pv (.int .i64 t10)), (11, .pv (.int .i64 t11)), (14, .pv (.int .i64 t14)), (15, .pv (.int .i64 t15)), (18, .pv (.int .i64 t18)), (19, .pv (.int .i64 t19))] => some ((t3, t5, t6, t10, t11, t14, t15, t18), t19)
  | _ => none
def st8 {ρ : Type} (n : Nat) (c : (List Int) × Int × Int × Int × Int × Int × Int × Int) (Ko : Exit → Fr → Option ρ) (s : Int) (nx : Int → Option ρ) : Option ρ :=
  Gm.plane_four_s8 n c.1 c.2.1 c.2.2.1 c.2.2.2.1 c.2.2.2.2.1 c.2.2.2.2.2.1 c.2.2.2.2.2.2.1 c.2.2.2.2.2.2.2 s nx (Ko .ret [(4, .pv (.bool true))]) (Ko (.exit 4) [(3, .ba (.ints .i64 c.1)), (5, .pv (.int .i64 c.2.1)), (10, .pv (.int .i64 c.2.2.2.1)), (11, .pv (.int .i64 c.2.2.2.2.1)), (14, .pv (.int .i64 c.2.2.2.2.2.1)), (15, .pv (.int .i64 c.2.2.2.2.2.2.1))])
def F5 (c : (List Int) × Int × Int × Int × Int) (s : Int) : Fr := [(3, .ba (.ints .i64 c.1)), (5, .pv (.int .i64 c.2.1)), (10, .pv (.int .i64 c.2.2.1)), (11, .pv (.int .i64 c.2.2.2.1)), (14, .pv (.int .i64 c.2.2.2.2)), (15, .pv (.int .i64 s))]
def d5 : Fr → Option (((List Int) × Int × Int × Int × Int) × (Int))
  | [(3, .ba (.ints .i64 t3)), (5, .pv (.int .i64 t5)), (10, .pv (.int .i64 t10)), (11, .pv (.int .i64 t11)), (14, .pv (.int .i64 t14)), (15, .pv (.int .i64 t15))] => some ((t3, t5, t10, t11, t14), t15)
  | _ => none
def st5 {ρ : Type} (n : Nat) (c : (List Int) × Int × Int × Int × Int) (Ko : Exit → Fr → Option ρ) (s : Int) (nx : Int → Option ρ) : Option ρ :=
  Gm.plane_four_s5 n c.1 c.2.1 c.2.2.1 c.2.2.2.1 c.2.2.2.2 s nx (Ko .ret [(4, .pv (.bool true))]) (Ko (.exit 2) [(3, .ba (.ints .i64 c.1)), (10, .pv (.int .i64 c.2.2.1)), (11, .pv (.int .i64 c.2.2.2.1))])
def F2 (c : (List Int) × Int) (s : Int) : Fr := [(3, .ba (.ints .i64 c.1)), (10, .pv (.int .i64 c.2)), (11, .pv (.int .i64 s))]
def d2 : Fr → Option (((List Int) × Int) × (Int))
  | [(3, .ba (.ints .i64 t3)), (10, .pv (.int .i64 t10)), (11, .pv (.int .i64 t11))] => some ((t3, t10), t11)
  | _ => none
def st2 {ρ : Type} (n : Nat) (c : (List Int) × Int) (Ko : Exit → Fr → Option ρ) (s : Int) (nx : Int → Option ρ) : Option ρ :=
  Gm.plane_four_s2 n c.1 c.2 s nx (Ko .ret [(4, .pv (.bool true))]) (Ko (.exit 0) [])
noncomputable def tab (ρ : Type) (n : Nat) : Tab ρ := { live := [(0, [2, 3]), (1, [3, 10, 11]), (2, [3, 10, 11, 12]), (3, [3, 5, 10, 11]), (4, [3, 5, 10, 11, 14, 15]), (5, [3, 5, 10, 11, 14, 15, 16]), (6, [3, 5, 6, 10, 11, 14, 15]), (7, [3, 5, 6, 10, 11, 14, 15, 18, 19]), (8, [3, 5, 6, 10, 11, 14, 15, 18, 19, 20]), (9, [3, 5, 6, 7, 10, 11, 14, 15, 18, 19]), (10, [3, 5, 6, 7, 10, 11, 14, 15, 18, 19, 32]), (11, [3, 5, 6, 7, 10, 11, 14, 15, 18, 19, 33, 34]), (12, [3, 5, 6, 7, 10, 11, 14, 15, 18, 19, 33, 34, 35]), (13, [3, 5, 6, 7, 8, 10, 11, 14, 15, 18, 19, 33, 34]), (14, [3, 5, 6, 7, 10, 11, 14, 15, 18, 19, 33, 34, 73]), (15, [4]), (16, [3, 5, 6, 7, 10, 11, 14, 15, 18, 19, 33, 34]), (17, [3, 5, 6, 10, 11, 14, 15, 18, 19]), (18, [3, 5, 10, 11, 14, 15]), (19, [3, 10, 11]), (20, [4])], xl := [(0, []), (1, [3, 10, 11]), (2, [3, 10, 11]), (3, [3, 5, 10, 11, 14, 15]), (4, [3, 5, 10, 11, 14, 15]), (5, [3, 5, 6, 10, 11, 14, 15, 18, 19]), (6, [3, 5, 6, 10, 11, 14, 15, 18, 19]), (7, [3, 5, 6, 7, 10, 11, 14, 15, 18, 19, 33, 34])], rl := [4], fz := [], jp := [], lp := [(12, fun A Ko => bnd (d12 A) fun p => iterM (st12 n p.1 Ko) n p.2), (8, fun A Ko => bnd (d8 A) fun p => iterM (st8 n p.1 Ko) n p.2), (5, fun A Ko => bnd (d5 A) fun p => iterM (st5 n p.1 Ko) n p.2), (2, fun A Ko => bnd (d2 A) fun p => iterM (st2 n p.1 Ko) n p.2)] }
noncomputable def b12 : Code := (cL (cB (c2 (c2 (c2 (cB (c1 (c2 (c2 (cL (cB (c2 (c2 (cB (c1 (c2 (c2 (cL (cB (c2 (c2 (cB (c1 (c2 (c2 (cL (cB (c2 (c1 (c2 body))))))))))))))))))))))))))))))
theorem d12_ok (A : Fr) (c : (List Int) × Int × Int × Int × Int × Int × Int × Int × Int × Int × Int) (s : Int) (h : d12 A = some (c, s)) : A = F12 c s := by
  unfold d12 at h
  split at h
  · cases h; rfl
  · cases h
theorem step12 (ρ : Type) (n : Nat) (c : (List Int) × Int × Int × Int × Int × Int × Int × Int × Int × Int × Int) (Ko : Exit → Fr → Option ρ) (s : Int) (nx : ((List Int) × Int × Int × Int × Int × Int × Int × Int × Int × Int × Int) → (Int) → Option ρ) :
    AEO (env n) (answers ρ (used n) (used n)) (tab ρ n) b12 (F12 c s) (thenO (fun A => bnd (d12 (restr (keepOf (env n) b12) A)) fun p => nx p.1 p.2) Ko) = st12 n c Ko s (nx c) := by kernel_rfl
theorem lp12_ok {ρ : Type} (n : Nat) (hl : EntsOK Tryd.prog gl (used n)) : ∀ (A : Fr) (Ko : Exit → Fr → Option ρ) (r : ρ) (K : Exit → Fr → Prop), (bnd (d12 (restr (keepOf (env n) b12) A)) fun p => iterM (st12 n p.1 Ko) n p.2) = some r → (∀ e A, Ko e A = some r → K e A) → Gx.Sem Tryd.prog (env n) (.loop b12) A K :=
  fun A Ko r K h hk => loop_cod (P := Tryd.prog) (E := env n) (T := tab ρ n) (fun _ _ _ h => answers_ok h) F12 d12 (st12 n) d12_ok (show Cov _ (env n) (tab ρ n) b12 from ⟨trivial, ⟨⟨trivial, trivial⟩, ⟨⟨trivial, ⟨trivial, ⟨⟨trivial, trivial⟩, trivial⟩⟩⟩, trivial⟩⟩⟩) (fun c Ko s nx => step12 ρ n c Ko s nx) n A Ko r K h hk
noncomputable def b8 : Code := (cL (cB (c2 (c2 (cB (c1 (c2 (c2 (cL (cB (c2 (c2 (cB (c1 (c2 (c2 (cL (cB (c2 (c1 (c2 body)))))))))))))))))))))
theorem d8_ok (A : Fr) (c : (List Int) × Int × Int × Int × Int × Int × Int × Int) (s : Int) (h : d8 A = some (c, s)) : A = F8 c s := by
  unfold d8 at h
  split at h
  · cases h; rfl
  · cases h
theorem step8 (ρ : Type) (n : Nat) (c : (List Int) × Int × Int × Int × Int × Int × Int × Int) (Ko : Exit → Fr → Option ρ) (s : Int) (nx : ((List Int) × Int × Int × Int × Int × Int × Int × Int) → (Int) → Option ρ) :
    AEO (env n) (answers ρ (used n) (used n)) (tab ρ n) b8 (F8 c s) (thenO (fun A => bnd (d8 (restr (keepOf (env n) b8) A)) fun p => nx p.1 p.2) Ko) = st8 n c Ko s (nx c) := by kernel_rfl
theorem lp8_ok {ρ : Type} (n : Nat) (hl : EntsOK Tryd.prog gl (used n)) : ∀ (A : Fr) (Ko : Exit → Fr → Option ρ) (r : ρ) (K : Exit → Fr → Prop), (bnd (d8 (restr (keepOf (env n) b8) A)) fun p => iterM (st8 n p.1 Ko) n p.2) = some r → (∀ e A, Ko e A = some r → K e A) → Gx.Sem Tryd.prog (env n) (.loop b8) A K :=
  fun A Ko r K h hk => loop_cod (P := Tryd.prog) (E := env n) (T := tab ρ n) (fun _ _ _ h => answers_ok h) F8 d8 (st8 n) d8_ok (show Cov _ (env n) (tab ρ n) b8 from ⟨trivial, ⟨⟨trivial, trivial⟩, ⟨⟨trivial, ⟨⟨trivial, ⟨trivial, trivial⟩⟩, ⟨trivial, lp12_ok n hl⟩⟩⟩, trivial⟩⟩⟩) (fun c Ko s nx => step8 ρ n c Ko s nx) n A Ko r K h hk
noncomputable def b5 : Code := (cL (cB (c2 (c2 (cB (c1 (c2 (c2 (cL (cB (c2 (c1 (c2 body)))))))))))))
theorem d5_ok (A : Fr) (c : (List Int) × Int × Int × Int × Int) (s : Int) (h : d5 A = some (c, s)) : A = F5 c s := by
  unfold d5 at h
  split at h
  · cases h; rfl
  · cases h
theorem step5 (ρ : Type) (n : Nat) (c : (List Int) × Int × Int × Int × Int) (Ko : Exit → Fr → Option ρ) (s : Int) (nx : ((List Int) × Int × Int × Int × Int) → (Int) → Option ρ) :
    AEO (env n) (answers ρ (used n) (used n)) (tab ρ n) b5 (F5 c s) (thenO (fun A => bnd (d5 (restr (keepOf (env n) b5) A)) fun p => nx p.1 p.2) Ko) = st5 n c Ko s (nx c) := by kernel_rfl
theorem lp5_ok {ρ : Type} (n : Nat) (hl : EntsOK Tryd.prog gl (used n)) : ∀ (A : Fr) (Ko : Exit → Fr → Option ρ) (r : ρ) (K : Exit → Fr → Prop), (bnd (d5 (restr (keepOf (env n) b5) A)) fun p => iterM (st5 n p.1 Ko) n p.2) = some r → (∀ e A, Ko e A = some r → K e A) → Gx.Sem Tryd.prog (env n) (.loop b5) A K :=
  fun A Ko r K h hk => loop_cod (P := Tryd.prog) (E := env n) (T := tab ρ n) (fun _ _ _ h => answers_ok h) F5 d5 (st5 n) d5_ok (show Cov _ (env n) (tab ρ n) b5 from ⟨trivial, ⟨⟨trivial, trivial⟩, ⟨⟨trivial, ⟨trivial, lp8_ok n hl⟩⟩, trivial⟩⟩⟩) (fun c Ko s nx => step5 ρ n c Ko s nx) n A Ko r K h hk
noncomputable def b2 : Code := (cL (cB (c2 (c1 (c2 body)))))
theorem d2_ok (A : Fr) (c : (List Int) × Int) (s : Int) (h : d2 A = some (c, s)) : A = F2 c s := by
  unfold d2 at h
  split at h
  · cases h; rfl
  · cases h
theorem step2 (ρ : Type) (n : Nat) (c : (List Int) × Int) (Ko : Exit → Fr → Option ρ) (s : Int) (nx : ((List Int) × Int) → (Int) → Option ρ) :
    AEO (env n) (answers ρ (used n) (used n)) (tab ρ n) b2 (F2 c s) (thenO (fun A => bnd (d2 (restr (keepOf (env n) b2) A)) fun p => nx p.1 p.2) Ko) = st2 n c Ko s (nx c) := by kernel_rfl
theorem lp2_ok {ρ : Type} (n : Nat) (hl : EntsOK Tryd.prog gl (used n)) : ∀ (A : Fr) (Ko : Exit → Fr → Option ρ) (r : ρ) (K : Exit → Fr → Prop), (bnd (d2 (restr (keepOf (env n) b2) A)) fun p => iterM (st2 n p.1 Ko) n p.2) = some r → (∀ e A, Ko e A = some r → K e A) → Gx.Sem Tryd.prog (env n) (.loop b2) A K :=
  fun A Ko r K h hk => loop_cod (P := Tryd.prog) (E := env n) (T := tab ρ n) (fun _ _ _ h => answers_ok h) F2 d2 (st2 n) d2_ok (show Cov _ (env n) (tab ρ n) b2 from ⟨trivial, ⟨⟨trivial, trivial⟩, ⟨⟨trivial, ⟨trivial, lp5_ok n hl⟩⟩, trivial⟩⟩⟩) (fun c Ko s nx => step2 ρ n c Ko s nx) n A Ko r K h hk
def enc (a : Int × (List (List Int)) × (List Int)) : List AV := [.ag [.pv (.int .i64 a.1), .ls (.rows a.2.1)], .aa (.ints .i64 a.2.2)]
def dec : List AV → Option (Int × (List (List Int)) × (List Int))
  | [.ag [.pv (.int .i64 toArray0_0), .ls (.rows toArray0_1)], .aa (.ints .i64 t1)] => some (toArray0_0, toArray0_1, t1)
  | _ => none
def emb (b : Bool) : AV × List AV := (.pv (.bool b), [])
def dr : AV → List AV → Option (Bool)
  | .pv (.bool r0), [] => some r0
  | _, _ => none
theorem dec_ok (vs : List AV) (a : Int × (List (List Int)) × (List Int)) (h : dec vs = some a) : vs = enc a := by
  unfold dec at h
  split at h
  · cases h; rfl
  · cases h
theorem dr_ok (v : AV) (o : List AV) (b : Bool) (h : dr v o = some b) : emb b = (v, o) := by
  unfold dr at h
  split at h
  · cases h; rfl
  · cases h
noncomputable def ent (n : Nat) : Ent := { f := 48, ms := [.lend, .lend], α := Int × (List (List Int)) × (List Int), β := Bool, dec := dec, enc := enc, emb := emb, m := fun a => Gm.plane_four n a.1 a.2.1 a.2.2, hdec := dec_ok }
theorem run (n : Nat) (a : Int × (List (List Int)) × (List Int)) : AEO (env n) (answers (Bool) (used n) (used n)) (tab (Bool) n) body (frameOf (enc a) 0) (bodyO (env n) Tryd.f48.results.toList (enc a) dr) = (ent n).m a := by kernel_rfl
theorem ok (n : Nat) (hl : EntsOK Tryd.prog gl (used n)) : EntOK Tryd.prog gl (ent n) :=
  fnO_sound (P := Tryd.prog) (e := ent n) (fn := Tryd.f48) (body := body) (l := used n) (te := te) (gl := gl) (n := ⟨2, 78⟩) (cut := []) (keep := keep) (T := tab (Bool) n) (dr := dr) Tryd.func48 (by kernel_rfl) (by kernel_rfl) te_ok (by kernel_rfl) (by kernel_rfl) hl (show Cov _ (env n) (tab (Bool) n) body from ⟨trivial, ⟨⟨trivial, lp2_ok n hl⟩, ⟨trivial, trivial⟩⟩⟩) dr_ok (fun a => ⟨rfl, rfl⟩) (run n)
theorem all_ok (n : Nat) : EntOK Tryd.prog gl (ent n) := ok n trivial
end W_plane_four
namespace W_plane_Check
noncomputable def body : Code := Tryd.f13.body.getD .skip
def keep : List (Nat × List Nat) := []
noncomputable def used (n : Nat) : List Ent := [W_design_Check.ent n, W_plane_linesOf.ent n, W_design_Meets.ent n, W_slices_Equal_intint.ent n, W_plane_four.ent n]
noncomputable def env (n : Nat) : Env := envOf te gl (used n) ⟨1, 44⟩ [] keep
noncomputable def tab (ρ : Type) (_n : Nat) : Tab ρ := { live := [(0, [1]), (1, [1, 4]), (2, [1, 4, 12]), (3, [2, 3]), (4, [1, 5, 6]), (5, [1, 5, 6, 7]), (6, [1, 37]), (7, [2, 3]), (8, [2, 3])], xl := [], rl := [2, 3], fz := [], jp := [], lp := [] }
def enc (a : Int × (List (List Int))) : List AV := [.ag [.pv (.int .i64 a.1), .ls (.rows a.2)]]
def dec : List AV → Option (Int × (List (List Int)))
  | [.ag [.pv (.int .i64 d0_0), .ls (.rows d0_1)]] => some (d0_0, d0_1)
  | _ => none
def emb (b : Int × Int) : AV × List AV := (.tp [.pv (.int .i64 b.1), .pv (.int .i64 b.2)], [])
def dr : AV → List AV → Option (Int × Int)
  | .tp [.pv (.int .i64 r0), .pv (.int .i64 r1)], [] => some (r0, r1)
  | _, _ => none
theorem dec_ok (vs : List AV) (a : Int × (List (List Int))) (h : dec vs = some a) : vs = enc a := by
  unfold dec at h
  split at h
  · cases h; rfl
  · cases h
theorem dr_ok (v : AV) (o : List AV) (b : Int × Int) (h : dr v o = some b) : emb b = (v, o) := by
  unfold dr at h
  split at h
  · cases h; rfl
  · cases h
noncomputable def ent (n : Nat) : Ent := { f := 13, ms := [.lend], α := Int × (List (List Int)), β := Int × Int, dec := dec, enc := enc, emb := emb, m := fun a => Gm.plane_Check n a.1 a.2, hdec := dec_ok }
theorem run (n : Nat) (a : Int × (List (List Int))) : AEO (env n) (answers (Int × Int) (used n) (used n)) (tab (Int × Int) n) body (frameOf (enc a) 0) (bodyO (env n) Tryd.f13.results.toList (enc a) dr) = (ent n).m a := by kernel_rfl
theorem ok (n : Nat) (hl : EntsOK Tryd.prog gl (used n)) : EntOK Tryd.prog gl (ent n) :=
  fnO_sound (P := Tryd.prog) (e := ent n) (fn := Tryd.f13) (body := body) (l := used n) (te := te) (gl := gl) (n := ⟨1, 44⟩) (cut := []) (keep := keep) (T := tab (Int × Int) n) (dr := dr) Tryd.func13 (by kernel_rfl) (by kernel_rfl) te_ok (by kernel_rfl) (by kernel_rfl) hl (show Cov _ (env n) (tab (Int × Int) n) body from ⟨trivial, ⟨⟨trivial, ⟨trivial, ⟨⟨trivial, trivial⟩, trivial⟩⟩⟩, ⟨trivial, ⟨trivial, ⟨⟨trivial, ⟨⟨trivial, trivial⟩, trivial⟩⟩, ⟨trivial, trivial⟩⟩⟩⟩⟩⟩) dr_ok (fun a => ⟨rfl, rfl⟩) (run n)
theorem all_ok (n : Nat) : EntOK Tryd.prog gl (ent n) := ok n ⟨W_design_Check.all_ok n, W_plane_linesOf.all_ok n, W_design_Meets.all_ok n, W_slices_Equal_intint.all_ok n, W_plane_four.all_ok n, trivial⟩
end W_plane_Check
namespace W_top_one
noncomputable def body : Code := Tryd.f8.body.getD .skip
def keep : List (Nat × List Nat) := []
noncomputable def used (n : Nat) : List Ent := [W_field_Least.ent n, W_differ_Singer.ent n, W_differ_Develop.ent n, W_plane_Check.ent n]
noncomputable def env (n : Nat) : Env := envOf te gl (used n) ⟨0, 49⟩ [] keep
noncomputable def tab (ρ : Type) (_n : Nat) : Tab ρ := { live := [(0, []), (1, [1, 2]), (2, [2, 3, 4, 5]), (3, [2, 5, 6, 7]), (4, [2, 5, 7, 8, 9]), (5, [0])], xl := [], rl := [0], fz := [], jp := [], lp := [] }
def enc (_a : Unit) : List AV := []
def dec : List AV → Option (Unit)
  | [] => some ()
  | _ => none
def emb (b : Bool) : AV × List AV := (.pv (.bool b), [])
def dr : AV → List AV → Option (Bool)
  | .pv (.bool r0), [] => some r0
  | _, _ => none
theorem dec_ok (vs : List AV) (a : Unit) (h : dec vs = some a) : vs = enc a := by
  unfold dec at h
  split at h
  · cases h; rfl
  · cases h
theorem dr_ok (v : AV) (o : List AV) (b : Bool) (h : dr v o = some b) : emb b = (v, o) := by
  unfold dr at h
  split at h
  · cases h; rfl
  · cases h
noncomputable def ent (n : Nat) : Ent := { f := 8, ms := [], α := Unit, β := Bool, dec := dec, enc := enc, emb := emb, m := fun a => Gm.top_one n, hdec := dec_ok }
theorem run (n : Nat) (a : Unit) : AEO (env n) (answers (Bool) (used n) (used n)) (tab (Bool) n) body (frameOf (enc a) 0) (bodyO (env n) Tryd.f8.results.toList (enc a) dr) = (ent n).m a := by kernel_rfl
theorem ok (n : Nat) (hl : EntsOK Tryd.prog gl (used n)) : EntOK Tryd.prog gl (ent n) :=
  fnO_sound (P := Tryd.prog) (e := ent n) (fn := Tryd.f8) (body := body) (l := used n) (te := te) (gl := gl) (n := ⟨0, 49⟩) (cut := []) (keep := keep) (T := tab (Bool) n) (dr := dr) Tryd.func8 (by kernel_rfl) (by kernel_rfl) te_ok (by kernel_rfl) (by kernel_rfl) hl (show Cov _ (env n) (tab (Bool) n) body from ⟨trivial, ⟨trivial, ⟨trivial, ⟨trivial, ⟨trivial, ⟨trivial, trivial⟩⟩⟩⟩⟩⟩) dr_ok (fun a => ⟨rfl, rfl⟩) (run n)
theorem all_ok (n : Nat) : EntOK Tryd.prog gl (ent n) := ok n ⟨W_field_Least.all_ok n, W_differ_Singer.all_ok n, W_differ_Develop.all_ok n, W_plane_Check.all_ok n, trivial⟩
end W_top_one

end Go.Gw
