/-
  The functions keep the contracts that their models give; printed by program (gen.py).
  Conditions: none.
-/
import Derived.Test.YtjneiglpfdkehaaDoorGwT
import Derived.Test.YtjneiglpfdkehaaDoorSh
import Derived.Test.YtjneiglpfdkehaaDoorLS
import Derived.Test.YtjneiglpfdkehaaDoorG5
import Derived.Test.YtjneiglpfdkehaaDoorGwB
namespace Go.Gw
open Go Go.Gx Go.Proofs
set_option maxRecDepth 100000
namespace W_triple_Grow_1
noncomputable def body : Code := Tryd.f56.body.getD .skip
def keep : List (Nat × List Nat) := []
noncomputable def used (_n : Nat) : List Ent := []
noncomputable def env (n : Nat) : Env := envOf te gl (used n) ⟨3, 11⟩ [] keep
noncomputable def tab (ρ : Type) (_n : Nat) : Tab ρ := { live := [(0, [0, 1]), (1, [3])], xl := [], rl := [3], fz := [], jp := [], lp := [] }
def enc (a : Int × Int) : List AV := [.pv (.int .i64 a.1), .lb [.pv (.int .i64 a.2)] 0]
def dec : List AV → Option (Int × Int)
  | [.pv (.int .i64 p0), .lb [.pv (.int .i64 t1)] 0] => some (p0, t1)
  | _ => none
def emb (b : Bool) : AV × List AV := (.pv (.bool b), [])
def dr : AV → List AV → Option (Bool)
  | .pv (.bool r0), [] => some r0
  | _, _ => none
theorem dec_ok (vs : List AV) (a : Int × Int) (h : dec vs = some a) : vs = enc a := by
  unfold dec at h
  split at h
  · cases h; rfl
  · cases h
theorem dr_ok (v : AV) (o : List AV) (b : Bool) (h : dr v o = some b) : emb b = (v, o) := by
  unfold dr at h
  split at h
  · cases h; rfl
  · cases h
noncomputable def ent (n : Nat) : Ent := { f := 56, ms := [.lend], α := Int × Int, β := Bool, dec := dec, enc := enc, emb := emb, m := fun a => Gm.triple_Grow_1 n a.1 a.2, hdec := dec_ok }
theorem run (n : Nat) (a : Int × Int) : AEO (env n) (answers (Bool) (used n) (used n)) (tab (Bool) n) body (frameOf (enc a) 0) (bodyO (env n) Tryd.f56.results.toList (enc a) dr) = (ent n).m a := by kernel_rfl
theorem ok (n : Nat) (hl : EntsOK Tryd.prog gl (used n)) : EntOK Tryd.prog gl (ent n) :=
  fnO_sound (P := Tryd.prog) (e := ent n) (fn := Tryd.f56) (body := body) (l := used n) (te := te) (gl := gl) (n := ⟨3, 11⟩) (cut := []) (keep := keep) (T := tab (Bool) n) (dr := dr) Tryd.func56 (by kernel_rfl) (by kernel_rfl) te_ok (by kernel_rfl) (by kernel_rfl) hl (show Cov _ (env n) (tab (Bool) n) body from ⟨trivial, ⟨trivial, trivial⟩⟩) dr_ok (fun a => ⟨rfl, rfl⟩) (run n)
theorem all_ok (n : Nat) : EntOK Tryd.prog gl (ent n) := ok n trivial
end W_triple_Grow_1
namespace W_slices_IndexFunc_intint__triple_Grow_1
noncomputable def body : Code := Tryd.f100.body.getD .skip
def keep : List (Nat × List Nat) := [(2, [0, 1, 7, 8])]
noncomputable def used (n : Nat) : List Ent := [W_triple_Grow_1.ent n]
noncomputable def env (n : Nat) : Env := envOf te gl (used n) ⟨4, 19⟩ [] keep
def F2 (c : (List Int) × Int × Int) (s : Int) : Fr := [(0, .ls (.ints .i64 c.1)), (1, .fn 56 [.lb [.pv (.int .i64 c.2.1)] 0]), (7, .pv (.int .i64 c.2.2)), (8, .pv (.int .i64 s))]
def d2 : Fr → Option (((List Int) × Int × Int) × (Int))
  | [(0, .ls (.ints .i64 s_0)), (1, .fn 56 [.lb [.pv (.int .i64 f1)] 0]), (7, .pv (.int .i64 t7)), (8, .pv (.int .i64 t8))] => some ((s_0, f1, t7), t8)
  | _ => none
def st2 {ρ : Type} (n : Nat) (c : (List Int) × Int × Int) (Ko : Exit → Fr → Option ρ) (s : Int) (nx : Int → Option ρ) : Option ρ :=
  Gm.slices_IndexFunc_intint__triple_Grow_1_s2 n c.1 c.2.1 c.2.2 s nx (fun (y0 : Int) => Ko .ret [(4, .pv (.int .i64 y0))]) (Ko (.exit 0) [])
noncomputable def tab (ρ : Type) (n : Nat) : Tab ρ := { live := [(0, [0, 1]), (1, [0, 1, 7, 8]), (2, [0, 1, 7, 8, 9]), (3, [0, 1, 5, 7, 8]), (4, [0, 1, 5, 7, 8, 16]), (5, [4]), (6, [0, 1, 7, 8]), (7, [4])], xl := [(0, []), (1, [0, 1, 7, 8])], rl := [4], fz := [], jp := [], lp := [(2, fun A Ko => bnd (d2 A) fun p => iterM (st2 n p.1 Ko) n p.2)] }
noncomputable def b2 : Code := (cL (cB (c2 (c1 (c2 body)))))
theorem d2_ok (A : Fr) (c : (List Int) × Int × Int) (s : Int) (h : d2 A = some (c, s)) : A = F2 c s := by
  unfold d2 at h
  split at h
  · cases h; rfl
  · cases h
theorem step2 (ρ : Type) (n : Nat) (c : (List Int) × Int × Int) (Ko : Exit → Fr → Option ρ) (s : Int) (nx : ((List Int) × Int × Int) → (Int) → Option ρ) :
    AEO (env n) (answers ρ (used n) (used n)) (tab ρ n) b2 (F2 c s) (thenO (fun A => bnd (d2 (restr (keepOf (env n) b2) A)) fun p => nx p.1 p.2) Ko) = st2 n c Ko s (nx c) := by kernel_rfl
theorem lp2_ok {ρ : Type} (n : Nat) (hl : EntsOK Tryd.prog gl (used n)) : ∀ (A : Fr) (Ko : Exit → Fr → Option ρ) (r : ρ) (K : Exit → Fr → Prop), (bnd (d2 (restr (keepOf (env n) b2) A)) fun p => iterM (st2 n p.1 Ko) n p.2) = some r → (∀ e A, Ko e A = some r → K e A) → Gx.Sem Tryd.prog (env n) (.loop b2) A K :=
  fun A Ko r K h hk => loop_cod (P := Tryd.prog) (E := env n) (T := tab ρ n) (fun _ _ _ h => answers_ok h) F2 d2 (st2 n) d2_ok (show Cov _ (env n) (tab ρ n) b2 from ⟨trivial, ⟨⟨trivial, trivial⟩, ⟨⟨trivial, ⟨trivial, ⟨⟨trivial, trivial⟩, trivial⟩⟩⟩, trivial⟩⟩⟩) (fun c Ko s nx => step2 ρ n c Ko s nx) n A Ko r K h hk
def enc (a : (List Int) × Int) : List AV := [.ls (.ints .i64 a.1), .fn 56 [.lb [.pv (.int .i64 a.2)] 0]]
def dec : List AV → Option ((List Int) × Int)
  | [.ls (.ints .i64 s_0), .fn 56 [.lb [.pv (.int .i64 f1)] 0]] => some (s_0, f1)
  | _ => none
def emb (b : Int) : AV × List AV := (.pv (.int .i64 b), [])
def dr : AV → List AV → Option (Int)
  | .pv (.int .i64 r0), [] => some r0
  | _, _ => none
theorem dec_ok (vs : List AV) (a : (List Int) × Int) (h : dec vs = some a) : vs = enc a := by
  unfold dec at h
  split at h
  · cases h; rfl
  · cases h
theorem dr_ok (v : AV) (o : List AV) (b : Int) (h : dr v o = some b) : emb b = (v, o) := by
  unfold dr at h
  split at h
  · cases h; rfl
  · cases h
noncomputable def ent (n : Nat) : Ent := { f := 100, ms := [.lend, .lend], α := (List Int) × Int, β := Int, dec := dec, enc := enc, emb := emb, m := fun a => Gm.slices_IndexFunc_intint__triple_Grow_1 n a.1 a.2, hdec := dec_ok }
theorem run (n : Nat) (a : (List Int) × Int) : AEO (env n) (answers (Int) (used n) (used n)) (tab (Int) n) body (frameOf (enc a) 0) (bodyO (env n) Tryd.f100.results.toList (enc a) dr) = (ent n).m a := by kernel_rfl
theorem ok (n : Nat) (hl : EntsOK Tryd.prog gl (used n)) : EntOK Tryd.prog gl (ent n) :=
  fnO_sound (P := Tryd.prog) (e := ent n) (fn := Tryd.f100) (body := body) (l := used n) (te := te) (gl := gl) (n := ⟨4, 19⟩) (cut := []) (keep := keep) (T := tab (Int) n) (dr := dr) Tryd.func100 (by kernel_rfl) (by kernel_rfl) te_ok (by kernel_rfl) (by kernel_rfl) hl (show Cov _ (env n) (tab (Int) n) body from ⟨trivial, ⟨⟨trivial, lp2_ok n hl⟩, ⟨trivial, trivial⟩⟩⟩) dr_ok (fun a => ⟨rfl, rfl⟩) (run n)
theorem all_ok (n : Nat) : EntOK Tryd.prog gl (ent n) := ok n ⟨W_triple_Grow_1.all_ok n, trivial⟩
end W_slices_IndexFunc_intint__triple_Grow_1
namespace W_slices_ContainsFunc_intint__triple_Grow_1
noncomputable def body : Code := Tryd.f55.body.getD .skip
def keep : List (Nat × List Nat) := []
noncomputable def used (n : Nat) : List Ent := [W_slices_IndexFunc_intint__triple_Grow_1.ent n]
noncomputable def env (n : Nat) : Env := envOf te gl (used n) ⟨4, 9⟩ [] keep
noncomputable def tab (ρ : Type) (_n : Nat) : Tab ρ := { live := [(0, [0, 1]), (1, [4])], xl := [], rl := [4], fz := [], jp := [], lp := [] }
def enc (a : (List Int) × Int) : List AV := [.ls (.ints .i64 a.1), .fn 56 [.lb [.pv (.int .i64 a.2)] 0]]
def dec : List AV → Option ((List Int) × Int)
  | [.ls (.ints .i64 s_0), .fn 56 [.lb [.pv (.int .i64 f1)] 0]] => some (s_0, f1)
  | _ => none
def emb (b : Bool) : AV × List AV := (.pv (.bool b), [])
def dr : AV → List AV → Option (Bool)
  | .pv (.bool r0), [] => some r0
  | _, _ => none
theorem dec_ok (vs : List AV) (a : (List Int) × Int) (h : dec vs = some a) : vs = enc a := by
  unfold dec at h
  split at h
  · cases h; rfl
  · cases h
theorem dr_ok (v : AV) (o : List AV) (b : Bool) (h : dr v o = some b) : emb b = (v, o) := by
  unfold dr at h
  split at h
  · cases h; rfl
  · cases h
noncomputable def ent (n : Nat) : Ent := { f := 55, ms := [.lend, .lend], α := (List Int) × Int, β := Bool, dec := dec, enc := enc, emb := emb, m := fun a => Gm.slices_ContainsFunc_intint__triple_Grow_1 n a.1 a.2, hdec := dec_ok }
theorem run (n : Nat) (a : (List Int) × Int) : AEO (env n) (answers (Bool) (used n) (used n)) (tab (Bool) n) body (frameOf (enc a) 0) (bodyO (env n) Tryd.f55.results.toList (enc a) dr) = (ent n).m a := by kernel_rfl
theorem ok (n : Nat) (hl : EntsOK Tryd.prog gl (used n)) : EntOK Tryd.prog gl (ent n) :=
  fnO_sound (P := Tryd.prog) (e := ent n) (fn := Tryd.f55) (body := body) (l := used n) (te := te) (gl := gl) (n := ⟨4, 9⟩) (cut := []) (keep := keep) (T := tab (Bool) n) (dr := dr) Tryd.func55 (by kernel_rfl) (by kernel_rfl) te_ok (by kernel_rfl) (by kernel_rfl) hl (show Cov _ (env n) (tab (Bool) n) body from ⟨trivial, ⟨trivial, trivial⟩⟩) dr_ok (fun a => ⟨rfl, rfl⟩) (run n)
theorem all_ok (n : Nat) : EntOK Tryd.prog gl (ent n) := ok n ⟨W_slices_IndexFunc_intint__triple_Grow_1.all_ok n, trivial⟩
end W_slices_ContainsFunc_intint__triple_Grow_1
namespace W_triple_lister_add
noncomputable def body : Code := Tryd.f57.body.getD .skip
def keep : List (Nat × List Nat) := []
noncomputable def used (n : Nat) : List Ent := [W_slices_Sort.ent n]
noncomputable def env (n : Nat) : Env := envOf te gl (used n) ⟨8, 25⟩ [] keep
noncomputable def tab (ρ : Type) (_n : Nat) : Tab ρ := { live := [(0, [0, 8]), (1, [0, 8]), (2, [0])], xl := [], rl := [0], fz := [], jp := [], lp := [] }
def enc (a : (List (List Int)) × Int × Int × Int × Int) : List AV := [.bx [.ow 22 (.rows a.1), .pv (.int .i64 a.2.1)], .pv (.int .i64 a.2.2.1), .pv (.int .i64 a.2.2.2.1), .pv (.int .i64 a.2.2.2.2)]
def dec : List AV → Option ((List (List Int)) × Int × Int × Int × Int)
  | [.bx [.ow 22 (.rows l0_0), .pv (.int .i64 l0_1)], .pv (.int .i64 a1), .pv (.int .i64 b2), .pv (.int .i64 c_3)] => some (l0_0, l0_1, a1, b2, c_3)
  | _ => none
def emb (b : (List (List Int)) × Int) : AV × List AV := (.tp [], [.bx [.ow 22 (.rows b.1), .pv (.int .i64 b.2)]])
def dr : AV → List AV → Option ((List (List Int)) × Int)
  | .tp [], [.bx [.ow 22 (.rows r0), .pv (.int .i64 r1)]] => some (r0, r1)
  | _, _ => none
theorem dec_ok (vs : List AV) (a : (List (List Int)) × Int × Int × Int × Int) (h : dec vs = some a) : vs = enc a := by
  unfold dec at h
  split at h
  · cases h; rfl
  · cases h
theorem dr_ok (v : AV) (o : List AV) (b : (List (List Int)) × Int) (h : dr v o = some b) : emb b = (v, o) := by
  unfold dr at h
  split at h
  · cases h; rfl
  · cases h
noncomputable def ent (n : Nat) : Ent := { f := 57, ms := [.io, .lend, .lend, .lend], α := (List (List Int)) × Int × Int × Int × Int, β := (List (List Int)) × Int, dec := dec, enc := enc, emb := emb, m := fun a => Gm.triple_lister_add n a.1 a.2.1 a.2.2.1 a.2.2.2.1 a.2.2.2.2, hdec := dec_ok }
theorem run (n : Nat) (a : (List (List Int)) × Int × Int × Int × Int) : AEO (env n) (answers ((List (List Int)) × Int) (used n) (used n)) (tab ((List (List Int)) × Int) n) body (frameOf (enc a) 0) (bodyO (env n) Tryd.f57.results.toList (enc a) dr) = (ent n).m a := by kernel_rfl
theorem ok (n : Nat) (hl : EntsOK Tryd.prog gl (used n)) : EntOK Tryd.prog gl (ent n) :=
  fnO_sound (P := Tryd.prog) (e := ent n) (fn := Tryd.f57) (body := body) (l := used n) (te := te) (gl := gl) (n := ⟨8, 25⟩) (cut := []) (keep := keep) (T := tab ((List (List Int)) × Int) n) (dr := dr) Tryd.func57 (by kernel_rfl) (by kernel_rfl) te_ok (by kernel_rfl) (by kernel_rfl) hl (show Cov _ (env n) (tab ((List (List Int)) × Int) n) body from ⟨trivial, ⟨trivial, trivial⟩⟩) dr_ok (fun a => ⟨rfl, rfl⟩) (run n)
theorem all_ok (n : Nat) : EntOK Tryd.prog gl (ent n) := ok n ⟨W_slices_Sort.all_ok n, trivial⟩
end W_triple_lister_add
namespace W_triple_third
noncomputable def body : Code := Tryd.f58.body.getD .skip
def keep : List (Nat × List Nat) := [(3, [0, 2, 4, 13]), (6, [0, 2, 4, 5, 13, 16]), (12, [2, 4, 25, 26, 27]), (15, [2, 4, 8, 25, 26, 27, 31, 32, 33])]
noncomputable def used (_n : Nat) : List Ent := []
noncomputable def env (n : Nat) : Env := envOf te gl (used n) ⟨2, 70⟩ [] keep
def F6 (c : (List (List Int)) × (List Int) × Int × Int) (s : (List Int) × Int) : Fr := [(0, .ls (.rows c.1)), (2, .ba (.ints .i64 c.2.1)), (4, .ba (.ints .i64 s.1)), (5, .pv (.int .i64 c.2.2.1)), (13, .pv (.int .i64 c.2.2.2)), (16, .pv (.int .i64 s.2))]
def d6 : Fr → Option (((List (List Int)) × (List Int) × Int × Int) × ((List Int) × Int))
  | [(0, .ls (.rows toArray0)), (2, .ba (.ints .i64 t2)), (4, .ba (.ints .i64 t4)), (5, .pv (.int .i64 t5)), (13, .pv (.int .i64 t13)), (16, .pv (.int .i64 t16))] => some ((toArray0, t2, t5, t13), (t4, t16))
  | _ => none
def st6 {ρ : Type} (n : Nat) (c : (List (List Int)) × (List Int) × Int × Int) (Ko : Exit → Fr → Option ρ) (s : (List Int) × Int) (nx : ((List Int) × Int) → Option ρ) : Option ρ :=
  Gm.triple_third_s6 n c.1 c.2.1 c.2.2.1 c.2.2.2 s.1 s.2 (fun a0 a1 => nx (a0, a1)) (fun (y0 : List Int) => Ko (.exit 2) [(0, .ls (.rows c.1)), (2, .ba (.ints .i64 c.2.1)), (4, .ba (.ints .i64 y0)), (13, .pv (.int .i64 c.2.2.2))])
def F3 (c : (List (List Int)) × (List Int)) (s : (List Int) × Int) : Fr := [(0, .ls (.rows c.1)), (2, .ba (.ints .i64 c.2)), (4, .ba (.ints .i64 s.1)), (13, .pv (.int .i64 s.2))]
def d3 : Fr → Option (((List (List Int)) × (List Int)) × ((List Int) × Int))
  | [(0, .ls (.rows toArray0)), (2, .ba (.ints .i64 t2)), (4, .ba (.ints .i64 t4)), (13, .pv (.int .i64 t13))] => some ((toArray0, t2), (t4, t13))
  | _ => none
def st3 {ρ : Type} (n : Nat) (c : (List (List Int)) × (List Int)) (Ko : Exit → Fr → Option ρ) (s : (List Int) × Int) (nx : ((List Int) × Int) → Option ρ) : Option ρ :=
  Gm.triple_third_s3 n c.1 c.2 s.1 s.2 (fun a0 a1 => nx (a0, a1)) (fun (y0 : List Int) => Ko (.exit 0) [(0, .ls (.rows c.1)), (2, .ba (.ints .i64 c.2)), (4, .ba (.ints .i64 y0))])
def F15 (c : (List Int) × (List Int) × (List (List Int)) × Int × Int × (List Int) × Int) (s : (List Int) × Int) : Fr := [(2, .ba (.ints .i64 c.1)), (4, .ba (.ints .i64 s.1)), (8, .sl (.ints .i64 c.2.1)), (25, .ls (.rows c.2.2.1)), (26, .pv (.int .i64 c.2.2.2.1)), (27, .pv (.int .i64 c.2.2.2.2.1)), (31, .sl (.ints .i64 c.2.2.2.2.2.1)), (32, .pv (.int .i64 c.2.2.2.2.2.2)), (33, .pv (.int .i64 s.2))]
def d15 : Fr → Option (((List Int) × (List Int) × (List (List Int)) × Int × Int × (List Int) × Int) × ((List Int) × Int))
  | [(2, .ba (.ints .i64 t2)), (4, .ba (.ints .i64 t4)), (8, .sl (.ints .i64 t8)), (25, .ls (.rows t25)), (26, .pv (.int .i64 t26)), (27, .pv (.int .i64 t27)), (31, .sl (.ints .i64 t31)), (32, .pv (.int .i64 t32)), (33, .pv (.int .i64 t33))] => some ((t2, t8, t25, t26, t27, t31, t32), (t4, t33))
  | _ => none
def st15 {ρ : Type} (n : Nat) (c : (List Int) × (List Int) × (List (List Int)) × Int × Int × (List Int) × Int) (Ko : Exit → Fr → Option ρ) (s : (List Int) × Int) (nx : ((List Int) × Int) → Option ρ) : Option ρ :=
  Gm.triple_third_s15 n c.1 c.2.1 c.2.2.1 c.2.2.2.1 c.2.2.2.2.1 c.2.2.2.2.2.1 c.2.2.2.2.2.2 s.1 s.2 (fun a0 a1 => nx (a0, a1)) (fun (y0 : List Int) => Ko .ret [(3, .pv (.bool false)), (2, .ba (.ints .i64 y0))]) (fun (y0 : List Int) => Ko (.exit 6) [(2, .ba (.ints .i64 c.1)), (4, .ba (.ints .i64 y0)), (25, .ls (.rows c.2.2.1)), (26, .pv (.int .i64 c.2.2.2.1)), (27, .pv (.int .i64 c.2.2.2.2.1))])
def F12 (c : (List Int) × (List (List Int)) × Int) (s : (List Int) × Int) : Fr := [(2, .ba (.ints .i64 c.1)), (4, .ba (.ints .i64 s.1)), (25, .ls (.rows c.2.1)), (26, .pv (.int .i64 c.2.2)), (27, .pv (.int .i64 s.2))]
def d12 : Fr → Option (((List Int) × (List (List Int)) × Int) × ((List Int) × Int))
  | [(2, .ba (.ints .i64 t2)), (4, .ba (.ints .i64 t4)), (25, .ls (.rows t25)), (26, .pv (.int .i64 t26)), (27, .pv (.int .i64 t27))] => some ((t2, t25, t26), (t4, t27))
  | _ => none
def st12 {ρ : Type} (n : Nat) (c : (List Int) × (List (List Int)) × Int) (Ko : Exit → Fr → Option ρ) (s : (List Int) × Int) (nx : ((List Int) × Int) → Option ρ) : Option ρ :=
  Gm.triple_third_s12 n c.1 c.2.1 c.2.2 s.1 s.2 (fun a0 a1 => nx (a0, a1)) (fun (y0 : List Int) => Ko .ret [(3, .pv (.bool false)), (2, .ba (.ints .i64 y0))]) (fun (y0 : List Int) => Ko (.exit 4) [(2, .ba (.ints .i64 c.1)), (4, .ba (.ints .i64 y0))])
noncomputable def tab (ρ : Type) (n : Nat) : Tab ρ := { live := [(0, [0, 2]), (1, [0, 2, 4]), (2, [0, 2, 4, 13]), (3, [0, 2, 4, 13, 14]), (4, [0, 2, 4, 5, 13]), (5, [0, 2, 4, 5, 13, 16]), (6, [0, 2, 4, 5, 13, 16, 17]), (7, [0, 2, 4, 5, 6, 13, 16]), (8, [0, 2, 4, 5, 13, 16]), (9, [0, 2, 4, 5, 13, 16]), (10, [0, 2, 4, 13]), (11, [2, 4, 25, 26, 27]), (12, [2, 4, 25, 26, 27, 28]), (13, [2, 4, 8, 25, 26, 27]), (14, [2, 4, 8, 25, 26, 27, 31, 32, 33]), (15, [2, 4, 8, 25, 26, 27, 31, 32, 33, 34]), (16, [2, 4, 8, 9, 10, 25, 26, 27, 31, 32, 33]), (17, [2, 4, 8, 10, 11, 12, 25, 26, 27, 31, 32, 33]), (18, [2, 4, 8, 10, 11, 12, 25, 26, 27, 31, 32, 33, 55]), (19, [2, 3]), (20, [2, 4, 8, 25, 26, 27, 31, 32, 33]), (21, [2, 4, 8, 25, 26, 27, 31, 32, 33]), (22, [2, 4, 25, 26, 27]), (23, [2, 3])], xl := [(0, [0, 2, 4]), (1, [0, 2, 4, 13]), (2, [0, 2, 4, 13]), (3, [0, 2, 4, 5, 13, 16]), (4, [2, 4]), (5, [2, 4, 25, 26, 27]), (6, [2, 4, 25, 26, 27]), (7, [2, 4, 8, 25, 26, 27, 31, 32, 33])], rl := [2, 3], fz := [], jp := [], lp := [(6, fun A Ko => bnd (d6 A) fun p => iterM (st6 n p.1 Ko) n p.2), (3, fun A Ko => bnd (d3 A) fun p => iterM (st3 n p.1 Ko) n p.2), (15, fun A Ko => bnd (d15 A) fun p => iterM (st15 n p.1 Ko) n p.2), (12, fun A Ko => bnd (d12 A) fun p => iterM (st12 n p.1 Ko) n p.2)] }
noncomputable def b6 : Code := (cL (cB (c2 (c2 (cB (c1 (c2 (c2 (cL (cB (c2 (c1 (c2 (c2 body))))))))))))))
theorem d6_ok (A : Fr) (c : (List (List Int)) × (List Int) × Int × Int) (s : (List Int) × Int) (h : d6 A = some (c, s)) : A = F6 c s := by
  unfold d6 at h
  split at h
  · cases h; rfl
  · cases h
theorem step6 (ρ : Type) (n : Nat) (c : (List (List Int)) × (List Int) × Int × Int) (Ko : Exit → Fr → Option ρ) (s : (List Int) × Int) (nx : ((List (List Int)) × (List Int) × Int × Int) → ((List Int) × Int) → Option ρ) :
    AEO (env n) (answers ρ (used n) (used n)) (tab ρ n) b6 (F6 c s) (thenO (fun A => bnd (d6 (restr (keepOf (env n) b6) A)) fun p => nx p.1 p.2) Ko) = st6 n c Ko s (nx c) := by kernel_rfl
theorem lp6_ok {ρ : Type} (n : Nat) (hl : EntsOK Tryd.prog gl (used n)) : ∀ (A : Fr) (Ko : Exit → Fr → Option ρ) (r : ρ) (K : Exit → Fr → Prop), (bnd (d6 (restr (keepOf (env n) b6) A)) fun p => iterM (st6 n p.1 Ko) n p.2) = some r → (∀ e A, Ko e A = some r → K e A) → Gx.Sem Tryd.prog (env n) (.loop b6) A K :=
  fun A Ko r K h hk => loop_cod (P := Tryd.prog) (E := env n) (T := tab ρ n) (fun _ _ _ h => answers_ok h) F6 d6 (st6 n) d6_ok (show Cov _ (env n) (tab ρ n) b6 from ⟨trivial, ⟨⟨trivial, trivial⟩, ⟨⟨trivial, trivial⟩, trivial⟩⟩⟩) (fun c Ko s nx => step6 ρ n c Ko s nx) n A Ko r K h hk
noncomputable def b3 : Code := (cL (cB (c2 (c1 (c2 (c2 body))))))
theorem d3_ok (A : Fr) (c : (List (List Int)) × (List Int)) (s : (List Int) × Int) (h : d3 A = some (c, s)) : A = F3 c s := by
  unfold d3 at h
  split at h
  · cases h; rfl
  · cases h
theorem step3 (ρ : Type) (n : Nat) (c : (List (List Int)) × (List Int)) (Ko : Exit → Fr → Option ρ) (s : (List Int) × Int) (nx : ((List (List Int)) × (List Int)) → ((List Int) × Int) → Option ρ) :
    AEO (env n) (answers ρ (used n) (used n)) (tab ρ n) b3 (F3 c s) (thenO (fun A => bnd (d3 (restr (keepOf (env n) b3) A)) fun p => nx p.1 p.2) Ko) = st3 n c Ko s (nx c) := by kernel_rfl
theorem lp3_ok {ρ : Type} (n : Nat) (hl : EntsOK Tryd.prog gl (used n)) : ∀ (A : Fr) (Ko : Exit → Fr → Option ρ) (r : ρ) (K : Exit → Fr → Prop), (bnd (d3 (restr (keepOf (env n) b3) A)) fun p => iterM (st3 n p.1 Ko) n p.2) = some r → (∀ e A, Ko e A = some r → K e A) → Gx.Sem Tryd.prog (env n) (.loop b3) A K :=
  fun A Ko r K h hk => loop_cod (P := Tryd.prog) (E := env n) (T := tab ρ n) (fun _ _ _ h => answers_ok h) F3 d3 (st3 n) d3_ok (show Cov _ (env n) (tab ρ n) b3 from ⟨trivial, ⟨⟨trivial, trivial⟩, ⟨⟨trivial, ⟨trivial, lp6_ok n hl⟩⟩, trivial⟩⟩⟩) (fun c Ko s nx => step3 ρ n c Ko s nx) n A Ko r K h hk
noncomputable def b15 : Code := (cL (cB (c2 (c2 (cB (c1 (c2 (c2 (cL (cB (c2 (c1 (c2 (c2 (c2 body)))))))))))))))
theorem d15_ok (A : Fr) (c : (List Int) × (List Int) × (List (List Int)) × Int × Int × (List Int) × Int) (s : (List Int) × Int) (h : d15 A = some (c, s)) : A = F15 c s := by
  unfold d15 at h
  split at h
  · cases h; rfl
  · cases h
theorem step15 (ρ : Type) (n : Nat) (c : (List Int) × (List Int) × (List (List Int)) × Int × Int × (List Int) × Int) (Ko : Exit → Fr → Option ρ) (s : (List Int) × Int) (nx : ((List Int) × (List Int) × (List (List Int)) × Int × Int × (List Int) × Int) → ((List Int) × Int) → Option ρ) :
    AEO (env n) (answers ρ (used n) (used n)) (tab ρ n) b15 (F15 c s) (thenO (fun A => bnd (d15 (restr (keepOf (env n) b15) A)) fun p => nx p.1 p.2) Ko) = st15 n c Ko s (nx c) := by kernel_rfl
theorem lp15_ok {ρ : Type} (n : Nat) (hl : EntsOK Tryd.prog gl (used n)) : ∀ (A : Fr) (Ko : Exit → Fr → Option ρ) (r : ρ) (K : Exit → Fr → Prop), (bnd (d15 (restr (keepOf (env n) b15) A)) fun p => iterM (st15 n p.1 Ko) n p.2) = some r → (∀ e A, Ko e A = some r → K e A) → Gx.Sem Tryd.prog (env n) (.loop b15) A K :=
  fun A Ko r K h hk => loop_cod (P := Tryd.prog) (E := env n) (T := tab ρ n) (fun _ _ _ h => answers_ok h) F15 d15 (st15 n) d15_ok (show Cov _ (env n) (tab ρ n) b15 from ⟨trivial, ⟨⟨trivial, trivial⟩, ⟨⟨trivial, ⟨trivial, ⟨⟨trivial, ⟨⟨trivial, trivial⟩, trivial⟩⟩, trivial⟩⟩⟩, trivial⟩⟩⟩) (fun c Ko s nx => step15 ρ n c Ko s nx) n A Ko r K h hk
noncomputable def b12 : Code := (cL (cB (c2 (c1 (c2 (c2 (c2 body)))))))
theorem d12_ok (A : Fr) (c : (List Int) × (List (List Int)) × Int) (s : (List Int) × Int) (h : d12 A = some (c, s)) : A = F12 c s := by
  unfold d12 at h
  split at h
  · cases h; rfl
  · cases h
theorem step12 (ρ : Type) (n : Nat) (c : (List Int) × (List (List Int)) × Int) (Ko : Exit → Fr → Option ρ) (s : (List Int) × Int) (nx : ((List Int) × (List (List Int)) × Int) → ((List Int) × Int) → Option ρ) :
    AEO (env n) (answers ρ (used n) (used n)) (tab ρ n) b12 (F12 c s) (thenO (fun A => bnd (d12 (restr (keepOf (env n) b12) A)) fun p => nx p.1 p.2) Ko) = st12 n c Ko s (nx c) := by kernel_rfl
theorem lp12_ok {ρ : Type} (n : Nat) (hl : EntsOK Tryd.prog gl (used n)) : ∀ (A : Fr) (Ko : Exit → Fr → Option ρ) (r : ρ) (K : Exit → Fr → Prop), (bnd (d12 (restr (keepOf (env n) b12) A)) fun p => iterM (st12 n p.1 Ko) n p.2) = some r → (∀ e A, Ko e A = some r → K e A) → Gx.Sem Tryd.prog (env n) (.loop b12) A K :=
  fun A Ko r K h hk => loop_cod (P := Tryd.prog) (E := env n) (T := tab ρ n) (fun _ _ _ h => answers_ok h) F12 d12 (st12 n) d12_ok (show Cov _ (env n) (tab ρ n) b12 from ⟨trivial, ⟨⟨trivial, trivial⟩, ⟨⟨trivial, ⟨trivial, lp15_ok n hl⟩⟩, trivial⟩⟩⟩) (fun c Ko s nx => step12 ρ n c Ko s nx) n A Ko r K h hk
def enc (a : List (List Int)) : List AV := [.ls (.rows a)]
def dec : List AV → Option (List (List Int))
  | [.ls (.rows toArray0)] => some toArray0
  | _ => none
def emb (b : (List Int) × Bool) : AV × List AV := (.tp [.aa (.ints .i64 b.1), .pv (.bool b.2)], [])
def dr : AV → List AV → Option ((List Int) × Bool)
  | .tp [.aa (.ints .i64 r0), .pv (.bool r1)], [] => some (r0, r1)
  | _, _ => none
theorem dec_ok (vs : List AV) (a : List (List Int)) (h : dec vs = some a) : vs = enc a := by
  unfold dec at h
  split at h
  · cases h; rfl
  · cases h
theorem dr_ok (v : AV) (o : List AV) (b : (List Int) × Bool) (h : dr v o = some b) : emb b = (v, o) := by
  unfold dr at h
  split at h
  · cases h; rfl
  · cases h
noncomputable def ent (n : Nat) : Ent := { f := 58, ms := [.lend], α := List (List Int), β := (List Int) × Bool, dec := dec, enc := enc, emb := emb, m := fun a => Gm.triple_third n a, hdec := dec_ok }
theorem run (n : Nat) (a : List (List Int)) : AEO (env n) (answers ((List Int) × Bool) (used n) (used n)) (tab ((List Int) × Bool) n) body (frameOf (enc a) 0) (bodyO (env n) Tryd.f58.results.toList (enc a) dr) = (ent n).m a := by kernel_rfl
theorem ok (n : Nat) (hl : EntsOK Tryd.prog gl (used n)) : EntOK Tryd.prog gl (ent n) :=
  fnO_sound (P := Tryd.prog) (e := ent n) (fn := Tryd.f58) (body := body) (l := used n) (te := te) (gl := gl) (n := ⟨2, 70⟩) (cut := []) (keep := keep) (T := tab ((List Int) × Bool) n) (dr := dr) Tryd.func58 (by kernel_rfl) (by kernel_rfl) te_ok (by kernel_rfl) (by kernel_rfl) hl (show Cov _ (env n) (tab ((List Int) × Bool) n) body from ⟨trivial, ⟨trivial, ⟨⟨trivial, lp3_ok n hl⟩, ⟨⟨trivial, lp12_ok n hl⟩, ⟨trivial, trivial⟩⟩⟩⟩⟩) dr_ok (fun a => ⟨rfl, rfl⟩) (run n)
theorem all_ok (n : Nat) : EntOK Tryd.prog gl (ent n) := ok n trivial
end W_triple_third
namespace W_triple_system_grow
def enc (a : (List (List Int)) × Int × (List Int) × Int × Int) : List AV := [.bx [.ow 22 (.rows a.1), .pv (.int .i64 a.2.1)], .ba (.ints .i64 a.2.2.1), .pv (.int .i64 a.2.2.2.1), .pv (.int .i64 a.2.2.2.2)]
def dec : List AV → Option ((List (List Int)) × Int × (List Int) × Int × Int)
  | [.bx [.ow 22 (.rows s_0_0), .pv (.int .i64 s_0_1)], .ba (.ints .i64 t1), .pv (.int .i64 p2), .pv (.int .i64 q3)] => some (s_0_0, s_0_1, t1, p2, q3)
  | _ => none
def emb (b : Bool × (List (List Int)) × Int × (List Int)) : AV × List AV := (.pv (.bool b.1), [.bx [.ow 22 (.rows b.2.1), .pv (.int .i64 b.2.2.1)], .ba (.ints .i64 b.2.2.2)])
def dr : AV → List AV → Option (Bool × (List (List Int)) × Int × (List Int))
  | .pv (.bool r0), [.bx [.ow 22 (.rows r1), .pv (.int .i64 r2)], .ba (.ints .i64 r3)] => some (r0, r1, r2, r3)
  | _, _ => none
theorem dec_ok (vs : List AV) (a : (List (List Int)) × Int × (List Int) × Int × Int) (h : dec vs = some a) : vs = enc a := by
  unfold dec at h
  split at h
  · cases h; rfl
  · cases h
theorem dr_ok (v : AV) (o : List AV) (b : Bool × (List (List Int)) × Int × (List Int)) (h : dr v o = some b) : emb b = (v, o) := by
  unfold dr at h
  split at h
  · cases h; rfl
  · cases h
noncomputable def entR (R : List (List Int) → Int → List Int → Int → Int → Option (Bool × (List (List Int)) × Int × (List Int))) : Ent := { f := 59, ms := [.io, .io, .lend, .lend], α := (List (List Int)) × Int × (List Int) × Int × Int, β := Bool × (List (List Int)) × Int × (List Int), dec := dec, enc := enc, emb := emb, m := fun a => R a.1 a.2.1 a.2.2.1 a.2.2.2.1 a.2.2.2.2, hdec := dec_ok }
end W_triple_system_grow
namespace W_triple_system_try
noncomputable def body : Code := Tryd.f101.body.getD .skip
def keep : List (Nat × List Nat) := [(2, [0, 1, 2, 3, 9])]
noncomputable def used (n : Nat) (R : List (List Int) → Int → List Int → Int → Int → Option (Bool × (List (List Int)) × Int × (List Int))) : List Ent := [W_triple_lister_add.ent n, W_triple_system_grow.entR R]
noncomputable def env (n : Nat) (R : List (List Int) → Int → List Int → Int → Int → Option (Bool × (List (List Int)) × Int × (List Int))) : Env := envOf te gl (used n R) ⟨8, 117⟩ [112] keep
def F2 (c : (List Int) × Int × Int) (s : (List (List Int)) × Int × Int) : Fr := [(0, .bx [.ow 22 (.rows s.1), .pv (.int .i64 s.2.1)]), (1, .ba (.ints .i64 c.1)), (2, .pv (.int .i64 c.2.1)), (3, .pv (.int .i64 c.2.2)), (9, .pv (.int .i64 s.2.2))]
def d2 : Fr → Option (((List Int) × Int × Int) × ((List (List Int)) × Int × Int))
  | [(0, .bx [.ow 22 (.rows toArray0_0), .pv (.int .i64 toArray0_1)]), (1, .ba (.ints .i64 t1)), (2, .pv (.int .i64 t2)), (3, .pv (.int .i64 t3)), (9, .pv (.int .i64 t9))] => some ((t1, t2, t3), (toArray0_0, toArray0_1, t9))
  | _ => none
def st2 {ρ : Type} (n : Nat) (R : List (List Int) → Int → List Int → Int → Int → Option (Bool × (List (List Int)) × Int × (List Int))) (c : (List Int) × Int × Int) (Ko : Exit → Fr → Option ρ) (s : (List (List Int)) × Int × Int) (nx : ((List (List Int)) × Int × Int) → Option ρ) : Option ρ :=
  Gm.triple_system_try_s2 n R c.1 c.2.1 c.2.2 s.1 s.2.1 s.2.2 (fun a0 a1 a2 => nx (a0, a1, a2)) (fun (y0 : List (List Int)) (y1 : Int) (y2 : List Int) => Ko .ret [(8, .pv (.bool true)), (0, .bx [.ow 22 (.rows y0), .pv (.int .i64 y1)]), (1, .ba (.ints .i64 y2))]) (fun (y0 : List (List Int)) (y1 : Int) => Ko (.exit 0) [(0, .bx [.ow 22 (.rows y0), .pv (.int .i64 y1)]), (1, .ba (.ints .i64 c.1))])
noncomputable def tab (ρ : Type) (n : Nat) (R : List (List Int) → Int → List Int → Int → Int → Option (Bool × (List (List Int)) × Int × (List Int))) : Tab ρ := { live := [(0, [0, 1, 2, 3]), (1, [0, 1, 2, 3, 9]), (2, [0, 1, 2, 3, 9, 19]), (3, [0, 1, 2, 3, 9]), (4, [0, 1, 2, 3, 9, 39]), (5, [0, 1, 2, 3, 9, 10, 11]), (6, [0, 1, 2, 3, 9, 10, 11]), (7, [0, 1, 2, 3, 9, 10, 11]), (8, [0, 1, 2, 3, 9, 10, 11]), (9, [0, 1, 2, 3, 9, 10, 11, 102]), (10, [0, 1, 8]), (11, [0, 1, 2, 3, 9]), (12, [0, 1, 8])], xl := [(0, [0, 1]), (1, [0, 1, 2, 3, 9])], rl := [0, 1, 8], fz := [], jp := [], lp := [(2, fun A Ko => bnd (d2 A) fun p => iterM (st2 n R p.1 Ko) n p.2)] }
noncomputable def b2 : Code := (cL (cB (c2 (c1 (c2 body)))))
theorem d2_ok (A : Fr) (c : (List Int) × Int × Int) (s : (List (List Int)) × Int × Int) (h : d2 A = some (c, s)) : A = F2 c s := by
  unfold d2 at h
  split at h
  · cases h; rfl
  · cases h
theorem step2 (ρ : Type) (n : Nat) (R : List (List Int) → Int → List Int → Int → Int → Option (Bool × (List (List Int)) × Int × (List Int))) (c : (List Int) × Int × Int) (Ko : Exit → Fr → Option ρ) (s : (List (List Int)) × Int × Int) (nx : ((List Int) × Int × Int) → ((List (List Int)) × Int × Int) → Option ρ) :
    AEO (env n R) (answers ρ (used n R) (used n R)) (tab ρ n R) b2 (F2 c s) (thenO (fun A => bnd (d2 (restr (keepOf (env n R) b2) A)) fun p => nx p.1 p.2) Ko) = st2 n R c Ko s (nx c) := by kernel_rfl
theorem lp2_ok {ρ : Type} (n : Nat) (R : List (List Int) → Int → List Int → Int → Int → Option (Bool × (List (List Int)) × Int × (List Int))) (hl : EntsOK Tryd.prog gl (used n R)) : ∀ (A : Fr) (Ko : Exit → Fr → Option ρ) (r : ρ) (K : Exit → Fr → Prop), (bnd (d2 (restr (keepOf (env n R) b2) A)) fun p => iterM (st2 n R p.1 Ko) n p.2) = some r → (∀ e A, Ko e A = some r → K e A) → Gx.Sem Tryd.prog (env n R) (.loop b2) A K :=
  fun A Ko r K h hk => loop_cod (P := Tryd.prog) (E := env n R) (T := tab ρ n R) (fun _ _ _ h => answers_ok h) F2 d2 (st2 n R) d2_ok (show Cov _ (env n R) (tab ρ n R) b2 from ⟨⟨trivial, ⟨trivial, trivial⟩⟩, ⟨⟨⟨trivial, ⟨trivial, trivial⟩⟩, ⟨trivial, ⟨trivial, ⟨trivial, ⟨trivial, ⟨⟨trivial, ⟨⟨trivial, trivial⟩, trivial⟩⟩, trivial⟩⟩⟩⟩⟩⟩, trivial⟩⟩) (fun c Ko s nx => step2 ρ n R c Ko s nx) n A Ko r K h hk
def enc (a : (List (List Int)) × Int × (List Int) × Int × Int) : List AV := [.bx [.ow 22 (.rows a.1), .pv (.int .i64 a.2.1)], .ba (.ints .i64 a.2.2.1), .pv (.int .i64 a.2.2.2.1), .pv (.int .i64 a.2.2.2.2)]
def dec : List AV → Option ((List (List Int)) × Int × (List Int) × Int × Int)
  | [.bx [.ow 22 (.rows toArray0_0), .pv (.int .i64 toArray0_1)], .ba (.ints .i64 t1), .pv (.int .i64 t2), .pv (.int .i64 t3)] => some (toArray0_0, toArray0_1, t1, t2, t3)
  | _ => none
def emb (b : Bool × (List (List Int)) × Int × (List Int)) : AV × List AV := (.pv (.bool b.1), [.bx [.ow 22 (.rows b.2.1), .pv (.int .i64 b.2.2.1)], .ba (.ints .i64 b.2.2.2)])
def dr : AV → List AV → Option (Bool × (List (List Int)) × Int × (List Int))
  | .pv (.bool r0), [.bx [.ow 22 (.rows r1), .pv (.int .i64 r2)], .ba (.ints .i64 r3)] => some (r0, r1, r2, r3)
  | _, _ => none
theorem dec_ok (vs : List AV) (a : (List (List Int)) × Int × (List Int) × Int × Int) (h : dec vs = some a) : vs = enc a := by
  unfold dec at h
  split at h
  · cases h; rfl
  · cases h
theorem dr_ok (v : AV) (o : List AV) (b : Bool × (List (List Int)) × Int × (List Int)) (h : dr v o = some b) : emb b = (v, o) := by
  unfold dr at h
  split at h
  · cases h; rfl
  · cases h
noncomputable def ent (n : Nat) (R : List (List Int) → Int → List Int → Int → Int → Option (Bool × (List (List Int)) × Int × (List Int))) : Ent := { f := 101, ms := [.io, .io, .lend, .lend], α := (List (List Int)) × Int × (List Int) × Int × Int, β := Bool × (List (List Int)) × Int × (List Int), dec := dec, enc := enc, emb := emb, m := fun a => Gm.triple_system_try n R a.1 a.2.1 a.2.2.1 a.2.2.2.1 a.2.2.2.2, hdec := dec_ok }
theorem run (n : Nat) (R : List (List Int) → Int → List Int → Int → Int → Option (Bool × (List (List Int)) × Int × (List Int))) (a : (List (List Int)) × Int × (List Int) × Int × Int) : AEO (env n R) (answers (Bool × (List (List Int)) × Int × (List Int)) (used n R) (used n R)) (tab (Bool × (List (List Int)) × Int × (List Int)) n R) body (frameOf (enc a) 0) (bodyO (env n R) Tryd.f101.results.toList (enc a) dr) = (ent n R).m a := by kernel_rfl
theorem ok (n : Nat) (R : List (List Int) → Int → List Int → Int → Int → Option (Bool × (List (List Int)) × Int × (List Int))) (hl : EntsOK Tryd.prog gl (used n R)) : EntOK Tryd.prog gl (ent n R) :=
  fnO_sound (P := Tryd.prog) (e := ent n R) (fn := Tryd.f101) (body := body) (l := used n R) (te := te) (gl := gl) (n := ⟨8, 117⟩) (cut := [112]) (keep := keep) (T := tab (Bool × (List (List Int)) × Int × (List Int)) n R) (dr := dr) Tryd.func101 (by kernel_rfl) (by kernel_rfl) te_ok (by kernel_rfl) (by kernel_rfl) hl (show Cov _ (env n R) (tab (Bool × (List (List Int)) × Int × (List Int)) n R) body from ⟨trivial, ⟨⟨trivial, lp2_ok n R hl⟩, ⟨trivial, trivial⟩⟩⟩) dr_ok (fun a => ⟨rfl, rfl⟩) (run n R)
theorem all_ok (n : Nat) (R : List (List Int) → Int → List Int → Int → Int → Option (Bool × (List (List Int)) × Int × (List Int))) (hR : EntOK Tryd.prog gl (W_triple_system_grow.entR R)) : EntOK Tryd.prog gl (ent n R) := ok n R ⟨W_triple_lister_add.all_ok n, hR, trivial⟩
end W_triple_system_try
namespace W_triple_system_grow
noncomputable def body : Code := Tryd.f59.body.getD .skip
def keep : List (Nat × List Nat) := [(1, [0, 1, 2, 3]), (3, [0, 1, 2, 3])]
noncomputable def used (n : Nat) (R : List (List Int) → Int → List Int → Int → Int → Option (Bool × (List (List Int)) × Int × (List Int))) : List Ent := [W_triple_system_try.ent n R]
noncomputable def env (n : Nat) (R : List (List Int) → Int → List Int → Int → Int → Option (Bool × (List (List Int)) × Int × (List Int))) : Env := envOf te gl (used n R) ⟨2, 40⟩ [] keep
def F3 (c : (List (List Int)) × Int × (List Int) × Int) (s : Int) : Fr := [(0, .bx [.ow 22 (.rows c.1), .pv (.int .i64 c.2.1)]), (1, .ba (.ints .i64 c.2.2.1)), (2, .pv (.int .i64 c.2.2.2)), (3, .pv (.int .i64 s))]
def d3 : Fr → Option (((List (List Int)) × Int × (List Int) × Int) × (Int))
  | [(0, .bx [.ow 22 (.rows s_0_0), .pv (.int .i64 s_0_1)]), (1, .ba (.ints .i64 t1)), (2, .pv (.int .i64 p2)), (3, .pv (.int .i64 q3))] => some ((s_0_0, s_0_1, t1, p2), q3)
  | _ => none
def st3 {ρ : Type} (n : Nat) (R : List (List Int) → Int → List Int → Int → Int → Option (Bool × (List (List Int)) × Int × (List Int))) (c : (List (List Int)) × Int × (List Int) × Int) (Ko : Exit → Fr → Option ρ) (s : Int) (nx : Int → Option ρ) : Option ρ :=
  Gm.triple_system_grow_s3 n R c.1 c.2.1 c.2.2.1 c.2.2.2 s nx (fun (y0 : Bool) (y1 : List (List Int)) (y2 : Int) (y3 : List Int) => Ko .ret [(8, .pv (.bool y0)), (0, .bx [.ow 22 (.rows y1), .pv (.int .i64 y2)]), (1, .ba (.ints .i64 y3))]) (Ko (.exit 2) [(0, .bx [.ow 22 (.rows c.1), .pv (.int .i64 c.2.1)]), (1, .ba (.ints .i64 c.2.2.1)), (2, .pv (.int .i64 c.2.2.2))])
def F1 (c : (List (List Int)) × Int × (List Int)) (s : Int × Int) : Fr := [(0, .bx [.ow 22 (.rows c.1), .pv (.int .i64 c.2.1)]), (1, .ba (.ints .i64 c.2.2)), (2, .pv (.int .i64 s.1)), (3, .pv (.int .i64 s.2))]
def d1 : Fr → Option (((List (List Int)) × Int × (List Int)) × (Int × Int))
  | [(0, .bx [.ow 22 (.rows s_0_0), .pv (.int .i64 s_0_1)]), (1, .ba (.ints .i64 t1)), (2, .pv (.int .i64 p2)), (3, .pv (.int .i64 q3))] => some ((s_0_0, s_0_1, t1), (p2, q3))
  | _ => none
def st1 {ρ : Type} (n : Nat) (R : List (List Int) → Int → List Int → Int → Int → Option (Bool × (List (List Int)) × Int × (List Int))) (c : (List (List Int)) × Int × (List Int)) (Ko : Exit → Fr → Option ρ) (s : Int × Int) (nx : (Int × Int) → Option ρ) : Option ρ :=
  Gm.triple_system_grow_s1 n R c.1 c.2.1 c.2.2 s.1 s.2 (fun a0 a1 => nx (a0, a1)) (fun (y0 : Bool) (y1 : List (List Int)) (y2 : Int) (y3 : List Int) => Ko .ret [(8, .pv (.bool y0)), (0, .bx [.ow 22 (.rows y1), .pv (.int .i64 y2)]), (1, .ba (.ints .i64 y3))]) (Ko (.exit 0) [(0, .bx [.ow 22 (.rows c.1), .pv (.int .i64 c.2.1)]), (1, .ba (.ints .i64 c.2.2))])
noncomputable def tab (ρ : Type) (n : Nat) (R : List (List Int) → Int → List Int → Int → Int → Option (Bool × (List (List Int)) × Int × (List Int))) : Tab ρ := { live := [(0, [0, 1, 2, 3]), (1, [0, 1, 2, 3, 14]), (2, [0, 1, 2, 3]), (3, [0, 1, 2, 3, 24]), (4, [0, 1, 2, 3]), (5, [0, 1, 2, 3, 34]), (6, [0, 1, 8]), (7, [0, 1, 8])], xl := [(0, [0, 1]), (1, [0, 1, 2]), (2, [0, 1, 2]), (3, [0, 1, 2, 3])], rl := [0, 1, 8], fz := [], jp := [], lp := [(3, fun A Ko => bnd (d3 A) fun p => iterM (st3 n R p.1 Ko) n p.2), (1, fun A Ko => bnd (d1 A) fun p => iterM (st1 n R p.1 Ko) n p.2)] }
noncomputable def b3 : Code := (cL (cB (cB (c1 (c2 (cL (cB (c1 (c2 body)))))))))
theorem d3_ok (A : Fr) (c : (List (List Int)) × Int × (List Int) × Int) (s : Int) (h : d3 A = some (c, s)) : A = F3 c s := by
  unfold d3 at h
  split at h
  · cases h; rfl
  · cases h
theorem step3 (ρ : Type) (n : Nat) (R : List (List Int) → Int → List Int → Int → Int → Option (Bool × (List (List Int)) × Int × (List Int))) (c : (List (List Int)) × Int × (List Int) × Int) (Ko : Exit → Fr → Option ρ) (s : Int) (nx : ((List (List Int)) × Int × (List Int) × Int) → (Int) → Option ρ) :
    AEO (env n R) (answers ρ (used n R) (used n R)) (tab ρ n R) b3 (F3 c s) (thenO (fun A => bnd (d3 (restr (keepOf (env n R) b3) A)) fun p => nx p.1 p.2) Ko) = st3 n R c Ko s (nx c) := by kernel_rfl
theorem lp3_ok {ρ : Type} (n : Nat) (R : List (List Int) → Int → List Int → Int → Int → Option (Bool × (List (List Int)) × Int × (List Int))) (hl : EntsOK Tryd.prog gl (used n R)) : ∀ (A : Fr) (Ko : Exit → Fr → Option ρ) (r : ρ) (K : Exit → Fr → Prop), (bnd (d3 (restr (keepOf (env n R) b3) A)) fun p => iterM (st3 n R p.1 Ko) n p.2) = some r → (∀ e A, Ko e A = some r → K e A) → Gx.Sem Tryd.prog (env n R) (.loop b3) A K :=
  fun A Ko r K h hk => loop_cod (P := Tryd.prog) (E := env n R) (T := tab ρ n R) (fun _ _ _ h => answers_ok h) F3 d3 (st3 n R) d3_ok (show Cov _ (env n R) (tab ρ n R) b3 from ⟨⟨trivial, ⟨trivial, trivial⟩⟩, ⟨⟨trivial, ⟨⟨trivial, trivial⟩, trivial⟩⟩, trivial⟩⟩) (fun c Ko s nx => step3 ρ n R c Ko s nx) n A Ko r K h hk
noncomputable def b1 : Code := (cL (cB (c1 (c2 body))))
theorem d1_ok (A : Fr) (c : (List (List Int)) × Int × (List Int)) (s : Int × Int) (h : d1 A = some (c, s)) : A = F1 c s := by
  unfold d1 at h
  split at h
  · cases h; rfl
  · cases h
theorem step1 (ρ : Type) (n : Nat) (R : List (List Int) → Int → List Int → Int → Int → Option (Bool × (List (List Int)) × Int × (List Int))) (c : (List (List Int)) × Int × (List Int)) (Ko : Exit → Fr → Option ρ) (s : Int × Int) (nx : ((List (List Int)) × Int × (List Int)) → (Int × Int) → Option ρ) :
    AEO (env n R) (answers ρ (used n R) (used n R)) (tab ρ n R) b1 (F1 c s) (thenO (fun A => bnd (d1 (restr (keepOf (env n R) b1) A)) fun p => nx p.1 p.2) Ko) = st1 n R c Ko s (nx c) := by kernel_rfl
theorem lp1_ok {ρ : Type} (n : Nat) (R : List (List Int) → Int → List Int → Int → Int → Option (Bool × (List (List Int)) × Int × (List Int))) (hl : EntsOK Tryd.prog gl (used n R)) : ∀ (A : Fr) (Ko : Exit → Fr → Option ρ) (r : ρ) (K : Exit → Fr → Prop), (bnd (d1 (restr (keepOf (env n R) b1) A)) fun p => iterM (st1 n R p.1 Ko) n p.2) = some r → (∀ e A, Ko e A = some r → K e A) → Gx.Sem Tryd.prog (env n R) (.loop b1) A K :=
  fun A Ko r K h hk => loop_cod (P := Tryd.prog) (E := env n R) (T := tab ρ n R) (fun _ _ _ h => answers_ok h) F1 d1 (st1 n R) d1_ok (show Cov _ (env n R) (tab ρ n R) b1 from ⟨⟨trivial, ⟨trivial, trivial⟩⟩, ⟨lp3_ok n R hl, trivial⟩⟩) (fun c Ko s nx => step1 ρ n R c Ko s nx) n A Ko r K h hk
noncomputable def ent (n : Nat) (R : List (List Int) → Int → List Int → Int → Int → Option (Bool × (List (List Int)) × Int × (List Int))) : Ent := entR (Gm.triple_system_grow_b n R)
theorem run (n : Nat) (R : List (List Int) → Int → List Int → Int → Int → Option (Bool × (List (List Int)) × Int × (List Int))) (a : (List (List Int)) × Int × (List Int) × Int × Int) : AEO (env n R) (answers (Bool × (List (List Int)) × Int × (List Int)) (used n R) (used n R)) (tab (Bool × (List (List Int)) × Int × (List Int)) n R) body (frameOf (enc a) 0) (bodyO (env n R) Tryd.f59.results.toList (enc a) dr) = (ent n R).m a := by kernel_rfl
theorem ok (n : Nat) (R : List (List Int) → Int → List Int → Int → Int → Option (Bool × (List (List Int)) × Int × (List Int))) (hl : EntsOK Tryd.prog gl (used n R)) : EntOK Tryd.prog gl (ent n R) :=
  fnO_sound (P := Tryd.prog) (e := ent n R) (fn := Tryd.f59) (body := body) (l := used n R) (te := te) (gl := gl) (n := ⟨2, 40⟩) (cut := []) (keep := keep) (T := tab (Bool × (List (List Int)) × Int × (List Int)) n R) (dr := dr) Tryd.func59 (by kernel_rfl) (by kernel_rfl) te_ok (by kernel_rfl) (by kernel_rfl) hl (show Cov _ (env n R) (tab (Bool × (List (List Int)) × Int × (List Int)) n R) body from ⟨trivial, ⟨lp1_ok n R hl, ⟨trivial, trivial⟩⟩⟩) dr_ok (fun a => ⟨rfl, rfl⟩) (run n R)
theorem turn (n : Nat) (R : List (List Int) → Int → List Int → Int → Int → Option (Bool × (List (List Int)) × Int × (List Int))) (hR : EntOK Tryd.prog gl (entR R)) : EntOK Tryd.prog gl (ent n R) := ok n R ⟨W_triple_system_try.all_ok n R hR, trivial⟩
theorem rec_ok (n : Nat) : ∀ k, EntOK Tryd.prog gl (entR (Gm.triple_system_grow_r n k))
  | 0 => EntOK_none (by kernel_rfl) (fun _ => rfl)
  | k + 1 => turn n _ (rec_ok n k)
noncomputable def top (n : Nat) : Ent := entR (Gm.triple_system_grow n)
theorem top_ok (n : Nat) : EntOK Tryd.prog gl (top n) := rec_ok n n
end W_triple_system_grow
namespace W_cmp_isNaN_int
noncomputable def body : Code := Tryd.f143.body.getD .skip
def keep : List (Nat × List Nat) := []
noncomputable def used (_n : Nat) : List Ent := []
noncomputable def env (n : Nat) : Env := envOf te gl (used n) ⟨2, 6⟩ [] keep
noncomputable def tab (ρ : Type) (_n : Nat) : Tab ρ := { live := [(0, [0]), (1, [2])], xl := [], rl := [2], fz := [], jp := [], lp := [] }
def enc (a : Int) : List AV := [.pv (.int .i64 a)]
def dec : List AV → Option (Int)
  | [.pv (.int .i64 x0)] => some x0
  | _ => none
def emb (b : Bool) : AV × List AV := (.pv (.bool b), [])
def dr : AV → List AV → Option (Bool)
  | .pv (.bool r0), [] => some r0
  | _, _ => none
theorem dec_ok (vs : List AV) (a : Int) (h : dec vs = some a) : vs = enc a := by
  unfold dec at h
  split at h
  · cases h; rfl
  · cases h
theorem dr_ok (v : AV) (o : List AV) (b : Bool) (h : dr v o = some b) : emb b = (v, o) := by
  unfold dr at h
  split at h
  · cases h; rfl
  · cases h
noncomputable def ent (n : Nat) : Ent := { f := 143, ms := [.lend], α := Int, β := Bool, dec := dec, enc := enc, emb := emb, m := fun a => Gm.cmp_isNaN_int n a, hdec := dec_ok }
theorem run (n : Nat) (a : Int) : AEO (env n) (answers (Bool) (used n) (used n)) (tab (Bool) n) body (frameOf (enc a) 0) (bodyO (env n) Tryd.f143.results.toList (enc a) dr) = (ent n).m a := by kernel_rfl
theorem ok (n : Nat) (hl : EntsOK Tryd.prog gl (used n)) : EntOK Tryd.prog gl (ent n) :=
  fnO_sound (P := Tryd.prog) (e := ent n) (fn := Tryd.f143) (body := body) (l := used n) (te := te) (gl := gl) (n := ⟨2, 6⟩) (cut := []) (keep := keep) (T := tab (Bool) n) (dr := dr) Tryd.func143 (by kernel_rfl) (by kernel_rfl) te_ok (by kernel_rfl) (by kernel_rfl) hl (show Cov _ (env n) (tab (Bool) n) body from ⟨trivial, ⟨trivial, trivial⟩⟩) dr_ok (fun a => ⟨rfl, rfl⟩) (run n)
theorem all_ok (n : Nat) : EntOK Tryd.prog gl (ent n) := ok n trivial
end W_cmp_isNaN_int
namespace W_cmp_Compare_int
noncomputable def body : Code := Tryd.f122.body.getD .skip
def keep : List (Nat × List Nat) := []
noncomputable def used (n : Nat) : List Ent := [W_cmp_isNaN_int.ent n]
noncomputable def env (n : Nat) : Env := envOf te gl (used n) ⟨4, 20⟩ [] keep
noncomputable def tab (ρ : Type) (_n : Nat) : Tab ρ := { live := [(0, [0, 1]), (1, [0, 1, 5]), (2, [0, 1, 5, 6]), (3, [0, 1, 6, 11]), (4, [12]), (5, [4]), (6, [4]), (7, [0, 1, 13]), (8, [4]), (9, [0, 1, 16]), (10, [4]), (11, [19]), (12, [4]), (13, [4])], xl := [], rl := [4], fz := [], jp := [], lp := [] }
def enc (a : Int × Int) : List AV := [.pv (.int .i64 a.1), .pv (.int .i64 a.2)]
def dec : List AV → Option (Int × Int)
  | [.pv (.int .i64 x0), .pv (.int .i64 y1)] => some (x0, y1)
  | _ => none
def emb (b : Int) : AV × List AV := (.pv (.int .i64 b), [])
def dr : AV → List AV → Option (Int)
  | .pv (.int .i64 r0), [] => some r0
  | _, _ => none
theorem dec_ok (vs : List AV) (a : Int × Int) (h : dec vs = some a) : vs = enc a := by
  unfold dec at h
  split at h
  · cases h; rfl
  · cases h
theorem dr_ok (v : AV) (o : List AV) (b : Int) (h : dr v o = some b) : emb b = (v, o) := by
  unfold dr at h
  split at h
  · cases h; rfl
  · cases h
noncomputable def ent (n : Nat) : Ent := { f := 122, ms := [.lend, .lend], α := Int × Int, β := Int, dec := dec, enc := enc, emb := emb, m := fun a => Gm.cmp_Compare_int n a.1 a.2, hdec := dec_ok }
theorem run (n : Nat) (a : Int × Int) : AEO (env n) (answers (Int) (used n) (used n)) (tab (Int) n) body (frameOf (enc a) 0) (bodyO (env n) Tryd.f122.results.toList (enc a) dr) = (ent n).m a := by kernel_rfl
theorem ok (n : Nat) (hl : EntsOK Tryd.prog gl (used n)) : EntOK Tryd.prog gl (ent n) :=
  fnO_sound (P := Tryd.prog) (e := ent n) (fn := Tryd.f122) (body := body) (l := used n) (te := te) (gl := gl) (n := ⟨4, 20⟩) (cut := []) (keep := keep) (T := tab (Int) n) (dr := dr) Tryd.func122 (by kernel_rfl) (by kernel_rfl) te_ok (by kernel_rfl) (by kernel_rfl) hl (show Cov _ (env n) (tab (Int) n) body from ⟨trivial, ⟨trivial, ⟨trivial, ⟨⟨trivial, ⟨⟨⟨trivial, ⟨⟨trivial, trivial⟩, trivial⟩⟩, ⟨trivial, trivial⟩⟩, trivial⟩⟩, ⟨⟨trivial, ⟨⟨trivial, trivial⟩, trivial⟩⟩, ⟨⟨trivial, ⟨⟨trivial, trivial⟩, trivial⟩⟩, ⟨⟨trivial, ⟨⟨trivial, trivial⟩, trivial⟩⟩, ⟨trivial, trivial⟩⟩⟩⟩⟩⟩⟩⟩) dr_ok (fun a => ⟨rfl, rfl⟩) (run n)
theorem all_ok (n : Nat) : EntOK Tryd.prog gl (ent n) := ok n ⟨W_cmp_isNaN_int.all_ok n, trivial⟩
end W_cmp_Compare_int
namespace W_slices_Compare_intint
noncomputable def body : Code := Tryd.f104.body.getD .skip
def keep : List (Nat × List Nat) := [(2, [0, 1, 9, 10, 11])]
noncomputable def used (n : Nat) : List Ent := [W_cmp_Compare_int.ent n]
noncomputable def env (n : Nat) : Env := envOf te gl (used n) ⟨4, 36⟩ [] keep
def F2 (c : (List Int) × (List Int) × (List Int) × Int) (s : Int) : Fr := [(0, .ls (.ints .i64 c.1)), (1, .ls (.ints .i64 c.2.1)), (9, .ls (.ints .i64 c.2.2.1)), (10, .pv (.int .i64 c.2.2.2)), (11, .pv (.int .i64 s))]
def d2 : Fr → Option (((List Int) × (List Int) × (List Int) × Int) × (Int))
  | [(0, .ls (.ints .i64 s10)), (1, .ls (.ints .i64 s21)), (9, .ls (.ints .i64 t9)), (10, .pv (.int .i64 t10)), (11, .pv (.int .i64 t11))] => some ((s10, s21, t9, t10), t11)
  | _ => none
def st2 {ρ : Type} (n : Nat) (c : (List Int) × (List Int) × (List Int) × Int) (Ko : Exit → Fr → Option ρ) (s : Int) (nx : Int → Option ρ) : Option ρ :=
  Gm.slices_Compare_intint_s2 n c.1 c.2.1 c.2.2.1 c.2.2.2 s nx (Ko .ret [(4, .pv (.int .i64 1))]) (fun (y0 : Int) => Ko .ret [(4, .pv (.int .i64 y0))]) (Ko (.exit 0) [(0, .ls (.ints .i64 c.1)), (1, .ls (.ints .i64 c.2.1))])
noncomputable def tab (ρ : Type) (n : Nat) : Tab ρ := { live := [(0, [0, 1]), (1, [0, 1, 9, 10, 11]), (2, [0, 1, 9, 10, 11, 12]), (3, [0, 1, 5, 6, 9, 10, 11]), (4, [0, 1, 5, 6, 9, 10, 11, 19]), (5, [4]), (6, [0, 1, 6, 7, 9, 10, 11]), (7, [0, 1, 8, 9, 10, 11]), (8, [0, 1, 8, 9, 10, 11, 28]), (9, [4]), (10, [0, 1, 9, 10, 11]), (11, [35]), (12, [4]), (13, [4])], xl := [(0, [0, 1]), (1, [0, 1, 9, 10, 11])], rl := [4], fz := [], jp := [], lp := [(2, fun A Ko => bnd (d2 A) fun p => iterM (st2 n p.1 Ko) n p.2)] }
noncomputable def b2 : Code := (cL (cB (c2 (c1 (c2 body)))))
theorem d2_ok (A : Fr) (c : (List Int) × (List Int) × (List Int) × Int) (s : Int) (h : d2 A = some (c, s)) : A = F2 c s := by
  unfold d2 at h
  split at h
  · cases h; rfl
  · cases h
theorem step2 (ρ : Type) (n : Nat) (c : (List Int) × (List Int) × (List Int) × Int) (Ko : Exit → Fr → Option ρ) (s : Int) (nx : ((List Int) × (List Int) × (List Int) × Int) → (Int) → Option ρ) :
    AEO (env n) (answers ρ (used n) (used n)) (tab ρ n) b2 (F2 c s) (thenO (fun A => bnd (d2 (restr (keepOf (env n) b2) A)) fun p => nx p.1 p.2) Ko) = st2 n c Ko s (nx c) := by kernel_rfl
theorem lp2_ok {ρ : Type} (n : Nat) (hl : EntsOK Tryd.prog gl (used n)) : ∀ (A : Fr) (Ko : Exit → Fr → Option ρ) (r : ρ) (K : Exit → Fr → Prop), (bnd (d2 (restr (keepOf (env n) b2) A)) fun p => iterM (st2 n p.1 Ko) n p.2) = some r → (∀ e A, Ko e A = some r → K e A) → Gx.Sem Tryd.prog (env n) (.loop b2) A K :=
  fun A Ko r K h hk => loop_cod (P := Tryd.prog) (E := env n) (T := tab ρ n) (fun _ _ _ h => answers_ok h) F2 d2 (st2 n) d2_ok (show Cov _ (env n) (tab ρ n) b2 from ⟨trivial, ⟨⟨trivial, trivial⟩, ⟨⟨trivial, ⟨⟨trivial, ⟨⟨trivial, trivial⟩, trivial⟩⟩, ⟨trivial, ⟨trivial, ⟨trivial, ⟨⟨trivial, trivial⟩, trivial⟩⟩⟩⟩⟩⟩, trivial⟩⟩⟩) (fun c Ko s nx => step2 ρ n c Ko s nx) n A Ko r K h hk
def enc (a : (List Int) × (List Int)) : List AV := [.ls (.ints .i64 a.1), .ls (.ints .i64 a.2)]
def dec : List AV → Option ((List Int) × (List Int))
  | [.ls (.ints .i64 s10), .ls (.ints .i64 s21)] => some (s10, s21)
  | _ => none
def emb (b : Int) : AV × List AV := (.pv (.int .i64 b), [])
def dr : AV → List AV → Option (Int)
  | .pv (.int .i64 r0), [] => some r0
  | _, _ => none
theorem dec_ok (vs : List AV) (a : (List Int) × (List Int)) (h : dec vs = some a) : vs = enc a := by
  unfold dec at h
  split at h
  · cases h; rfl
  · cases h
theorem dr_ok (v : AV) (o : List AV) (b : Int) (h : dr v o = some b) : emb b = (v, o) := by
  unfold dr at h
  split at h
  · cases h; rfl
  · cases h
noncomputable def ent (n : Nat) : Ent := { f := 104, ms := [.lend, .lend], α := (List Int) × (List Int), β := Int, dec := dec, enc := enc, emb := emb, m := fun a => Gm.slices_Compare_intint n a.1 a.2, hdec := dec_ok }
theorem run (n : Nat) (a : (List Int) × (List Int)) : AEO (env n) (answers (Int) (used n) (used n)) (tab (Int) n) body (frameOf (enc a) 0) (bodyO (env n) Tryd.f104.results.toList (enc a) dr) = (ent n).m a := by kernel_rfl
theorem ok (n : Nat) (hl : EntsOK Tryd.prog gl (used n)) : EntOK Tryd.prog gl (ent n) :=
  fnO_sound (P := Tryd.prog) (e := ent n) (fn := Tryd.f104) (body := body) (l := used n) (te := te) (gl := gl) (n := ⟨4, 36⟩) (cut := []) (keep := keep) (T := tab (Int) n) (dr := dr) Tryd.func104 (by kernel_rfl) (by kernel_rfl) te_ok (by kernel_rfl) (by kernel_rfl) hl (show Cov _ (env n) (tab (Int) n) body from ⟨trivial, ⟨⟨trivial, lp2_ok n hl⟩, ⟨⟨trivial, ⟨⟨trivial, trivial⟩, trivial⟩⟩, ⟨trivial, trivial⟩⟩⟩⟩) dr_ok (fun a => ⟨rfl, rfl⟩) (run n)
theorem all_ok (n : Nat) : EntOK Tryd.prog gl (ent n) := ok n ⟨W_cmp_Compare_int.all_ok n, trivial⟩
end W_slices_Compare_intint
namespace W_triple_system_design_1
noncomputable def body : Code := Tryd.f103.body.getD .skip
def keep : List (Nat × List Nat) := []
noncomputable def used (n : Nat) : List Ent := [W_slices_Compare_intint.ent n]
noncomputable def env (n : Nat) : Env := envOf te gl (used n) ⟨4, 8⟩ [] keep
noncomputable def tab (ρ : Type) (_n : Nat) : Tab ρ := { live := [(0, [0, 1]), (1, [4])], xl := [], rl := [4], fz := [], jp := [], lp := [] }
def enc (a : (List Int) × (List Int)) : List AV := [.ls (.ints .i64 a.1), .ls (.ints .i64 a.2)]
def dec : List AV → Option ((List Int) × (List Int))
  | [.ls (.ints .i64 a0), .ls (.ints .i64 b1)] => some (a0, b1)
  | _ => none
def emb (b : Int) : AV × List AV := (.pv (.int .i64 b), [])
def dr : AV → List AV → Option (Int)
  | .pv (.int .i64 r0), [] => some r0
  | _, _ => none
theorem dec_ok (vs : List AV) (a : (List Int) × (List Int)) (h : dec vs = some a) : vs = enc a := by
  unfold dec at h
  split at h
  · cases h; rfl
  · cases h
theorem dr_ok (v : AV) (o : List AV) (b : Int) (h : dr v o = some b) : emb b = (v, o) := by
  unfold dr at h
  split at h
  · cases h; rfl
  · cases h
noncomputable def ent (n : Nat) : Ent := { f := 103, ms := [.lend, .lend], α := (List Int) × (List Int), β := Int, dec := dec, enc := enc, emb := emb, m := fun a => Gm.triple_system_design_1 n a.1 a.2, hdec := dec_ok }
theorem run (n : Nat) (a : (List Int) × (List Int)) : AEO (env n) (answers (Int) (used n) (used n)) (tab (Int) n) body (frameOf (enc a) 0) (bodyO (env n) Tryd.f103.results.toList (enc a) dr) = (ent n).m a := by kernel_rfl
theorem ok (n : Nat) (hl : EntsOK Tryd.prog gl (used n)) : EntOK Tryd.prog gl (ent n) :=
  fnO_sound (P := Tryd.prog) (e := ent n) (fn := Tryd.f103) (body := body) (l := used n) (te := te) (gl := gl) (n := ⟨4, 8⟩) (cut := []) (keep := keep) (T := tab (Int) n) (dr := dr) Tryd.func103 (by kernel_rfl) (by kernel_rfl) te_ok (by kernel_rfl) (by kernel_rfl) hl (show Cov _ (env n) (tab (Int) n) body from ⟨trivial, ⟨trivial, trivial⟩⟩) dr_ok (fun a => ⟨rfl, rfl⟩) (run n)
theorem all_ok (n : Nat) : EntOK Tryd.prog gl (ent n) := ok n ⟨W_slices_Compare_intint.all_ok n, trivial⟩
end W_triple_system_design_1
namespace W_slices_SortFunc__triple_system_design_1
def ent (n : Nat) : Ent := sortLE 102 22 103 n
theorem all_ok (n : Nat) : EntOK Tryd.prog gl (ent n) := sortL_ok (g := 103) (n := n) (ce := W_triple_system_design_1.ent n) (by kernel_rfl) (fun α _ enc h1 cf h2 cb blk off cap d w eg h3 h4 h5 h6 => Any.slices_SortFunc Tryd.sortL enc h1 cf h2 103 cb blk off cap d w eg h3 h4 h5 h6) (fun p cap fv w => AnyF.slices_SortFunc_none (P := Tryd.prog) (ρ := Tryd.sortL_ren) { Tryd.sortL with } p cap fv w) (W_triple_system_design_1.all_ok n) rfl (fun a b ha hb => ⟨(a, b), cmpL a b, rfl, Law.triple_system_design_1_eq n a b ha hb, rfl⟩)
end W_slices_SortFunc__triple_system_design_1
namespace W_triple_system_design
noncomputable def body : Code := Tryd.f60.body.getD .skip
def keep : List (Nat × List Nat) := []
noncomputable def used (n : Nat) : List Ent := [W_slices_SortFunc__triple_system_design_1.ent n]
noncomputable def env (n : Nat) : Env := envOf te gl (used n) ⟨2, 19⟩ [] keep
noncomputable def tab (ρ : Type) (_n : Nat) : Tab ρ := { live := [(0, [0, 2]), (1, [0, 2]), (2, [0, 2])], xl := [], rl := [0, 2], fz := [], jp := [], lp := [] }
def enc (a : (List (List Int)) × Int) : List AV := [.bx [.ow 22 (.rows a.1), .pv (.int .i64 a.2)]]
def dec : List AV → Option ((List (List Int)) × Int)
  | [.bx [.ow 22 (.rows s_0_0), .pv (.int .i64 s_0_1)]] => some (s_0_0, s_0_1)
  | _ => none
def emb (b : Int × (List (List Int)) × (List (List Int)) × Int) : AV × List AV := (.ag [.pv (.int .i64 b.1), .sl (.rows b.2.1)], [.bx [.sl (.rows b.2.2.1), .pv (.int .i64 b.2.2.2)]])
def dr : AV → List AV → Option (Int × (List (List Int)) × (List (List Int)) × Int)
  | .ag [.pv (.int .i64 r0), .sl (.rows r1)], [.bx [.sl (.rows r2), .pv (.int .i64 r3)]] => some (r0, r1, r2, r3)
  | _, _ => none
theorem dec_ok (vs : List AV) (a : (List (List Int)) × Int) (h : dec vs = some a) : vs = enc a := by
  unfold dec at h
  split at h
  · cases h; rfl
  · cases h
theorem dr_ok (v : AV) (o : List AV) (b : Int × (List (List Int)) × (List (List Int)) × Int) (h : dr v o = some b) : emb b = (v, o) := by
  unfold dr at h
  split at h
  · cases h; rfl
  · cases h
noncomputable def ent (n : Nat) : Ent := { f := 60, ms := [.io], α := (List (List Int)) × Int, β := Int × (List (List Int)) × (List (List Int)) × Int, dec := dec, enc := enc, emb := emb, m := fun a => Gm.triple_system_design n a.1 a.2, hdec := dec_ok }
theorem run (n : Nat) (a : (List (List Int)) × Int) : AEO (env n) (answers (Int × (List (List Int)) × (List (List Int)) × Int) (used n) (used n)) (tab (Int × (List (List Int)) × (List (List Int)) × Int) n) body (frameOf (enc a) 0) (bodyO (env n) Tryd.f60.results.toList (enc a) dr) = (ent n).m a := by kernel_rfl
theorem ok (n : Nat) (hl : EntsOK Tryd.prog gl (used n)) : EntOK Tryd.prog gl (ent n) :=
  fnO_sound (P := Tryd.prog) (e := ent n) (fn := Tryd.f60) (body := body) (l := used n) (te := te) (gl := gl) (n := ⟨2, 19⟩) (cut := []) (keep := keep) (T := tab (Int × (List (List Int)) × (List (List Int)) × Int) n) (dr := dr) Tryd.func60 (by kernel_rfl) (by kernel_rfl) te_ok (by kernel_rfl) (by kernel_rfl) hl (show Cov _ (env n) (tab (Int × (List (List Int)) × (List (List Int)) × Int) n) body from ⟨trivial, ⟨trivial, ⟨trivial, trivial⟩⟩⟩) dr_ok (fun a => ⟨rfl, rfl⟩) (run n)
theorem all_ok (n : Nat) : EntOK Tryd.prog gl (ent n) := ok n ⟨W_slices_SortFunc__triple_system_design_1.all_ok n, trivial⟩
end W_triple_system_design
namespace W_triple_Grow
noncomputable def body : Code := Tryd.f19.body.getD .skip
def keep : List (Nat × List Nat) := [(7, [2, 4, 6, 27, 28, 29])]
noncomputable def used (n : Nat) : List Ent := [W_slices_ContainsFunc_intint__triple_Grow_1.ent n, W_triple_lister_add.ent n, W_triple_third.ent n, W_triple_system_grow.top n, W_triple_system_design.ent n]
noncomputable def env (n : Nat) : Env := envOf te gl (used n) ⟨2, 91⟩ [] keep
def F7 (c : Int × Int × (List (List Int)) × (List (List Int)) × Int) (s : (List (List Int)) × Int × Int) : Fr := [(2, .bx [.pv (.int .i64 c.1)]), (4, .bx [.pv (.int .i64 c.2.1), .ow 22 (.rows c.2.2.1)]), (6, .bx [.ow 22 (.rows s.1), .pv (.int .i64 s.2.1)]), (27, .ls (.rows c.2.2.2.1)), (28, .pv (.int .i64 c.2.2.2.2)), (29, .pv (.int .i64 s.2.2))]
def d7 : Fr → Option ((Int × Int × (List (List Int)) × (List (List Int)) × Int) × ((List (List Int)) × Int × Int))
  | [(2, .bx [.pv (.int .i64 t2)]), (4, .bx [.pv (.int .i64 t4_0), .ow 22 (.rows t4_1)]), (6, .bx [.ow 22 (.rows t6_0), .pv (.int .i64 t6_1)]), (27, .ls (.rows t27)), (28, .pv (.int .i64 t28)), (29, .pv (.int .i64 t29))] => some ((t2, t4_0, t4_1, t27, t28), (t6_0, t6_1, t29))
  | _ => none
def st7 {ρ : Type} (n : Nat) (c : Int × Int × (List (List Int)) × (List (List Int)) × Int) (Ko : Exit → Fr → Option ρ) (s : (List (List Int)) × Int × Int) (nx : ((List (List Int)) × Int × Int) → Option ρ) : Option ρ :=
  Gm.triple_Grow_s7 n c.1 c.2.1 c.2.2.1 c.2.2.2.1 c.2.2.2.2 s.1 s.2.1 s.2.2 (fun a0 a1 a2 => nx (a0, a1, a2)) (fun (y0 : List (List Int)) => Ko .ret [(5, .pv (.int .i64 1)), (4, .bx [.pv (.int .i64 0), .nl 22 (.rows y0)])]) (fun (y0 : List (List Int)) => Ko .ret [(5, .pv (.int .i64 2)), (4, .bx [.pv (.int .i64 0), .nl 22 (.rows y0)])]) (fun (y0 : List (List Int)) (y1 : Int) => Ko (.exit 1) [(4, .bx [.pv (.int .i64 c.2.1), .ow 22 (.rows c.2.2.1)]), (6, .bx [.ow 22 (.rows y0), .pv (.int .i64 y1)])])
noncomputable def tab (ρ : Type) (n : Nat) : Tab ρ := { live := [(0, [1, 2, 4]), (1, [1, 2, 4, 11]), (2, [4, 5]), (3, [1, 2, 4, 19]), (4, [4, 5]), (5, [1, 2, 4, 6]), (6, [2, 4, 6, 27, 28, 29]), (7, [2, 4, 6, 27, 28, 29, 30]), (8, [2, 4, 6, 8, 27, 28, 29]), (9, [2, 4, 6, 8, 27, 28, 29, 35]), (10, [4, 5]), (11, [2, 4, 6, 8, 27, 28, 29, 57]), (12, [4, 5]), (13, [2, 4, 6, 27, 28, 29]), (14, [2, 4, 6, 27, 28, 29]), (15, [4, 6, 9, 10]), (16, [4, 6, 9, 83]), (17, [4, 5]), (18, [4, 6, 87]), (19, [4, 5]), (20, [4, 5])], xl := [(0, [1, 2, 4]), (1, [4, 6]), (2, [2, 4, 6, 27, 28, 29])], rl := [4, 5], fz := [], jp := [], lp := [(7, fun A Ko => bnd (d7 A) fun p => iterM (st7 n p.1 Ko) n p.2)] }
noncomputable def b7 : Code := (cL (cB (c2 (c1 (c2 (c2 (c2 body)))))))
theorem d7_ok (A : Fr) (c : Int × Int × (List (List Int)) × (List (List Int)) × Int) (s : (List (List Int)) × Int × Int) (h : d7 A = some (c, s)) : A = F7 c s := by
  unfold d7 at h
  split at h
  · cases h; rfl
  · cases h
theorem step7 (ρ : Type) (n : Nat) (c : Int × Int × (List (List Int)) × (List (List Int)) × Int) (Ko : Exit → Fr → Option ρ) (s : (List (List Int)) × Int × Int) (nx : (Int × Int × (List (List Int)) × (List (List Int)) × Int) → ((List (List Int)) × Int × Int) → Option ρ) :
    AEO (env n) (answers ρ (used n) (used n)) (tab ρ n) b7 (F7 c s) (thenO (fun A => bnd (d7 (restr (keepOf (env n) b7) A)) fun p => nx p.1 p.2) Ko) = st7 n c Ko s (nx c) := by kernel_rfl
theorem lp7_ok {ρ : Type} (n : Nat) (hl : EntsOK Tryd.prog gl (used n)) : ∀ (A : Fr) (Ko : Exit → Fr → Option ρ) (r : ρ) (K : Exit → Fr → Prop), (bnd (d7 (restr (keepOf (env n) b7) A)) fun p => iterM (st7 n p.1 Ko) n p.2) = some r → (∀ e A, Ko e A = some r → K e A) → Gx.Sem Tryd.prog (env n) (.loop b7) A K :=
  fun A Ko r K h hk => loop_cod (P := Tryd.prog) (E := env n) (T := tab ρ n) (fun _ _ _ h => answers_ok h) F7 d7 (st7 n) d7_ok (show Cov _ (env n) (tab ρ n) b7 from ⟨trivial, ⟨⟨trivial, trivial⟩, ⟨⟨trivial, ⟨⟨trivial, ⟨⟨trivial, trivial⟩, trivial⟩⟩, ⟨⟨trivial, ⟨⟨trivial, trivial⟩, trivial⟩⟩, trivial⟩⟩⟩, trivial⟩⟩⟩) (fun c Ko s nx => step7 ρ n c Ko s nx) n A Ko r K h hk
def enc (a : Int × (List (List Int))) : List AV := [.pv (.int .i64 a.1), .ls (.rows a.2)]
def dec : List AV → Option (Int × (List (List Int)))
  | [.pv (.int .i64 toArray0), .ls (.rows t1)] => some (toArray0, t1)
  | _ => none
def emb (b : Int × (List (List Int)) × Int) : AV × List AV := (.tp [.ag [.pv (.int .i64 b.1), .sl (.rows b.2.1)], .pv (.int .i64 b.2.2)], [])
def dr : AV → List AV → Option (Int × (List (List Int)) × Int)
  | .tp [.ag [.pv (.int .i64 r0), .sl (.rows r1)], .pv (.int .i64 r2)], [] => some (r0, r1, r2)
  | _, _ => none
theorem dec_ok (vs : List AV) (a : Int × (List (List Int))) (h : dec vs = some a) : vs = enc a := by
  unfold dec at h
  split at h
  · cases h; rfl
  · cases h
theorem dr_ok (v : AV) (o : List AV) (b : Int × (List (List Int)) × Int) (h : dr v o = some b) : emb b = (v, o) := by
  unfold dr at h
  split at h
  · cases h; rfl
  · cases h
noncomputable def ent (n : Nat) : Ent := { f := 19, ms := [.lend, .lend], α := Int × (List (List Int)), β := Int × (List (List Int)) × Int, dec := dec, enc := enc, emb := emb, m := fun a => Gm.triple_Grow n a.1 a.2, hdec := dec_ok }
theorem run (n : Nat) (a : Int × (List (List Int))) : AEO (env n) (answers (Int × (List (List Int)) × Int) (used n) (used n)) (tab (Int × (List (List Int)) × Int) n) body (frameOf (enc a) 0) (bodyO (env n) Tryd.f19.results.toList (enc a) dr) = (ent n).m a := by kernel_rfl
theorem ok (n : Nat) (hl : EntsOK Tryd.prog gl (used n)) : EntOK Tryd.prog gl (ent n) :=
  fnO_sound (P := Tryd.prog) (e := ent n) (fn := Tryd.f19) (body := body) (l := used n) (te := te) (gl := gl) (n := ⟨2, 91⟩) (cut := []) (keep := keep) (T := tab (Int × (List (List Int)) × Int) n) (dr := dr) Tryd.func19 (by kernel_rfl) (by kernel_rfl) te_ok (by kernel_rfl) (by kernel_rfl) hl (show Cov _ (env n) (tab (Int × (List (List Int)) × Int) n) body from ⟨trivial, ⟨⟨trivial, ⟨⟨trivial, trivial⟩, ⟨trivial, ⟨⟨trivial, trivial⟩, trivial⟩⟩⟩⟩, ⟨trivial, ⟨⟨trivial, lp7_ok n hl⟩, ⟨trivial, ⟨⟨trivial, ⟨⟨trivial, trivial⟩, trivial⟩⟩, ⟨⟨trivial, ⟨⟨trivial, trivial⟩, trivial⟩⟩, ⟨trivial, trivial⟩⟩⟩⟩⟩⟩⟩⟩) dr_ok (fun a => ⟨rfl, rfl⟩) (run n)
theorem all_ok (n : Nat) : EntOK Tryd.prog gl (ent n) := ok n ⟨W_slices_ContainsFunc_intint__triple_Grow_1.all_ok n, W_triple_lister_add.all_ok n, W_triple_third.all_ok n, W_triple_system_grow.top_ok n, W_triple_system_design.all_ok n, trivial⟩
end W_triple_Grow
namespace W_slices_Delete
def ent (_n : Nat) : Ent := deleteIE 61 3
theorem all_ok (n : Nat) : EntOK Tryd.prog gl (ent n) := deleteI_ok (by kernel_rfl) (fun blk off cap i j zs w h1 h2 h3 h4 h5 => Tryd.slices_Delete_int blk off cap i j zs w h1 h2 h3 h4 h5)
end W_slices_Delete
namespace W_perm_Unrank
noncomputable def body : Code := Tryd.f20.body.getD .skip
def keep : List (Nat × List Nat) := [(6, [0, 1, 6, 7, 18, 19]), (15, [1, 6, 7, 9, 10])]
noncomputable def used (n : Nat) : List Ent := [W_slices_Delete.ent n]
noncomputable def env (n : Nat) : Env := envOf te gl (used n) ⟨1, 65⟩ [] keep
def F6 (c : Int × Int × Int) (s : (List Int) × Int × Int) : Fr := [(0, .pv (.int .i64 c.1)), (1, .pv (.int .i64 c.2.1)), (6, .ow 3 (.ints .i64 s.1)), (7, .pv (.int .i64 s.2.1)), (18, .pv (.int .i64 c.2.2)), (19, .pv (.int .i64 s.2.2))]
def d6 : Fr → Option ((Int × Int × Int) × ((List Int) × Int × Int))
  | [(0, .pv (.int .i64 toArray0)), (1, .pv (.int .i64 t1)), (6, .ow 3 (.ints .i64 t6)), (7, .pv (.int .i64 t7)), (18, .pv (.int .i64 t18)), (19, .pv (.int .i64 t19))] => some ((toArray0, t1, t18), (t6, t7, t19))
  | _ => none
def st6 {ρ : Type} (n : Nat) (c : Int × Int × Int) (Ko : Exit → Fr → Option ρ) (s : (List Int) × Int × Int) (nx : ((List Int) × Int × Int) → Option ρ) : Option ρ :=
  Gm.perm_Unrank_s6 n c.1 c.2.1 c.2.2 s.1 s.2.1 s.2.2 (fun a0 a1 a2 => nx (a0, a1, a2)) (fun (y0 : List Int) (y1 : Int) => Ko (.exit 0) [(0, .pv (.int .i64 c.1)), (1, .pv (.int .i64 c.2.1)), (6, .ow 3 (.ints .i64 y0)), (7, .pv (.int .i64 y1))])
def F15 (_c : Unit) (s : Int × (List Int) × Int × (List Int) × Int) : Fr := [(1, .pv (.int .i64 s.1)), (6, .ow 3 (.ints .i64 s.2.1)), (7, .pv (.int .i64 s.2.2.1)), (9, .ow 3 (.ints .i64 s.2.2.2.1)), (10, .pv (.int .i64 s.2.2.2.2))]
def d15 : Fr → Option ((Unit) × (Int × (List Int) × Int × (List Int) × Int))
  | [(1, .pv (.int .i64 t1)), (6, .ow 3 (.ints .i64 t6)), (7, .pv (.int .i64 t7)), (9, .ow 3 (.ints .i64 t9)), (10, .pv (.int .i64 t10))] => some ((), (t1, t6, t7, t9, t10))
  | _ => none
def st15 {ρ : Type} (n : Nat) (_c : Unit) (Ko : Exit → Fr → Option ρ) (s : Int × (List Int) × Int × (List Int) × Int) (nx : (Int × (List Int) × Int × (List Int) × Int) → Option ρ) : Option ρ :=
  Gm.perm_Unrank_s15 n s.1 s.2.1 s.2.2.1 s.2.2.2.1 s.2.2.2.2 (fun a0 a1 a2 a3 a4 => nx (a0, a1, a2, a3, a4)) (fun (y0 : List Int) => Ko (.exit 2) [(9, .ow 3 (.ints .i64 y0))])
noncomputable def tab (ρ : Type) (n : Nat) : Tab ρ := { live := [(0, [0, 1]), (1, [0, 1, 17]), (2, [4, 5]), (3, [0, 1, 6]), (4, [0, 1, 6, 7]), (5, [0, 1, 6, 7, 18, 19]), (6, [0, 1, 6, 7, 18, 19, 20]), (7, [0, 1, 6, 7, 8, 18, 19]), (8, [0, 1, 6, 7, 8, 18, 19]), (9, [0, 1, 6, 7, 18, 19]), (10, [0, 1, 6, 7, 18, 19]), (11, [0, 1, 6, 7, 37]), (12, [4, 5]), (13, [0, 1, 6, 7, 9]), (14, [1, 6, 7, 9, 10]), (15, [1, 6, 7, 9, 10, 40]), (16, [1, 6, 7, 9, 10]), (17, [1, 6, 7, 9, 10]), (18, [1, 6, 7, 9, 10, 11]), (19, [1, 6, 7, 9, 10, 11]), (20, [1, 6, 7, 9, 10, 11]), (21, [1, 6, 7, 9, 10]), (22, [4, 5, 9])], xl := [(0, [0, 1, 6, 7]), (1, [0, 1, 6, 7, 18, 19]), (2, [9]), (3, [1, 6, 7, 9, 10])], rl := [4, 5, 9], fz := [], jp := [], lp := [(6, fun A Ko => bnd (d6 A) fun p => iterM (st6 n p.1 Ko) n p.2), (15, fun A Ko => bnd (d15 A) fun p => iterM (st15 n p.1 Ko) n p.2)] }
noncomputable def b6 : Code := (cL (cB (c2 (c1 (c2 (c2 (c2 (c2 body))))))))
theorem d6_ok (A : Fr) (c : Int × Int × Int) (s : (List Int) × Int × Int) (h : d6 A = some (c, s)) : A = F6 c s := by
  unfold d6 at h
  split at h
  · cases h; rfl
  · cases h
theorem step6 (ρ : Type) (n : Nat) (c : Int × Int × Int) (Ko : Exit → Fr → Option ρ) (s : (List Int) × Int × Int) (nx : (Int × Int × Int) → ((List Int) × Int × Int) → Option ρ) :
    AEO (env n) (answers ρ (used n) (used n)) (tab ρ n) b6 (F6 c s) (thenO (fun A => bnd (d6 (restr (keepOf (env n) b6) A)) fun p => nx p.1 p.2) Ko) = st6 n c Ko s (nx c) := by kernel_rfl
theorem lp6_ok {ρ : Type} (n : Nat) (hl : EntsOK Tryd.prog gl (used n)) : ∀ (A : Fr) (Ko : Exit → Fr → Option ρ) (r : ρ) (K : Exit → Fr → Prop), (bnd (d6 (restr (keepOf (env n) b6) A)) fun p => iterM (st6 n p.1 Ko) n p.2) = some r → (∀ e A, Ko e A = some r → K e A) → Gx.Sem Tryd.prog (env n) (.loop b6) A K :=
  fun A Ko r K h hk => loop_cod (P := Tryd.prog) (E := env n) (T := tab ρ n) (fun _ _ _ h => answers_ok h) F6 d6 (st6 n) d6_ok (show Cov _ (env n) (tab ρ n) b6 from ⟨trivial, ⟨⟨trivial, trivial⟩, ⟨⟨trivial, ⟨trivial, trivial⟩⟩, trivial⟩⟩⟩) (fun c Ko s nx => step6 ρ n c Ko s nx) n A Ko r K h hk
noncomputable def b15 : Code := (cL (cB (c2 (c1 (c2 (c2 (c2 (c2 (c2 (c2 (c2 body)))))))))))
theorem d15_ok (A : Fr) (c : Unit) (s : Int × (List Int) × Int × (List Int) × Int) (h : d15 A = some (c, s)) : A = F15 c s := by
  unfold d15 at h
  split at h
  · cases h; rfl
  · cases h
theorem step15 (ρ : Type) (n : Nat) (c : Unit) (Ko : Exit → Fr → Option ρ) (s : Int × (List Int) × Int × (List Int) × Int) (nx : (Unit) → (Int × (List Int) × Int × (List Int) × Int) → Option ρ) :
    AEO (env n) (answers ρ (used n) (used n)) (tab ρ n) b15 (F15 c s) (thenO (fun A => bnd (d15 (restr (keepOf (env n) b15) A)) fun p => nx p.1 p.2) Ko) = st15 n c Ko s (nx c) := by kernel_rfl
theorem lp15_ok {ρ : Type} (n : Nat) (hl : EntsOK Tryd.prog gl (used n)) : ∀ (A : Fr) (Ko : Exit → Fr → Option ρ) (r : ρ) (K : Exit → Fr → Prop), (bnd (d15 (restr (keepOf (env n) b15) A)) fun p => iterM (st15 n p.1 Ko) n p.2) = some r → (∀ e A, Ko e A = some r → K e A) → Gx.Sem Tryd.prog (env n) (.loop b15) A K :=
  fun A Ko r K h hk => loop_cod (P := Tryd.prog) (E := env n) (T := tab ρ n) (fun _ _ _ h => answers_ok h) F15 d15 (st15 n) d15_ok (show Cov _ (env n) (tab ρ n) b15 from ⟨⟨trivial, ⟨trivial, trivial⟩⟩, ⟨⟨trivial, ⟨trivial, ⟨trivial, ⟨trivial, trivial⟩⟩⟩⟩, trivial⟩⟩) (fun c Ko s nx => step15 ρ n c Ko s nx) n A Ko r K h hk
def enc (a : Int × Int) : List AV := [.pv (.int .i64 a.1), .pv (.int .i64 a.2)]
def dec : List AV → Option (Int × Int)
  | [.pv (.int .i64 toArray0), .pv (.int .i64 t1)] => some (toArray0, t1)
  | _ => none
def emb (b : (List Int) × Int) : AV × List AV := (.tp [.sl (.ints .i64 b.1), .pv (.int .i64 b.2)], [])
def dr : AV → List AV → Option ((List Int) × Int)
  | .tp [.sl (.ints .i64 r0), .pv (.int .i64 r1)], [] => some (r0, r1)
  | _, _ => none
theorem dec_ok (vs : List AV) (a : Int × Int) (h : dec vs = some a) : vs = enc a := by
  unfold dec at h
  split at h
  · cases h; rfl
  · cases h
theorem dr_ok (v : AV) (o : List AV) (b : (List Int) × Int) (h : dr v o = some b) : emb b = (v, o) := by
  unfold dr at h
  split at h
  · cases h; rfl
  · cases h
noncomputable def ent (n : Nat) : Ent := { f := 20, ms := [.lend, .lend], α := Int × Int, β := (List Int) × Int, dec := dec, enc := enc, emb := emb, m := fun a => Gm.perm_Unrank n a.1 a.2, hdec := dec_ok }
theorem run (n : Nat) (a : Int × Int) : AEO (env n) (answers ((List Int) × Int) (used n) (used n)) (tab ((List Int) × Int) n) body (frameOf (enc a) 0) (bodyO (env n) Tryd.f20.results.toList (enc a) dr) = (ent n).m a := by kernel_rfl
theorem ok (n : Nat) (hl : EntsOK Tryd.prog gl (used n)) : EntOK Tryd.prog gl (ent n) :=
  fnO_sound (P := Tryd.prog) (e := ent n) (fn := Tryd.f20) (body := body) (l := used n) (te := te) (gl := gl) (n := ⟨1, 65⟩) (cut := []) (keep := keep) (T := tab ((List Int) × Int) n) (dr := dr) Tryd.func20 (by kernel_rfl) (by kernel_rfl) te_ok (by kernel_rfl) (by kernel_rfl) hl (show Cov _ (env n) (tab ((List Int) × Int) n) body from ⟨trivial, ⟨⟨trivial, ⟨⟨trivial, trivial⟩, trivial⟩⟩, ⟨trivial, ⟨trivial, ⟨⟨trivial, lp6_ok n hl⟩, ⟨⟨trivial, ⟨⟨trivial, trivial⟩, trivial⟩⟩, ⟨trivial, ⟨⟨trivial, lp15_ok n hl⟩, ⟨trivial, trivial⟩⟩⟩⟩⟩⟩⟩⟩⟩) dr_ok (fun a => ⟨rfl, rfl⟩) (run n)
theorem all_ok (n : Nat) : EntOK Tryd.prog gl (ent n) := ok n ⟨W_slices_Delete.all_ok n, trivial⟩
end W_perm_Unrank
namespace W_latin_side
noncomputable def body : Code := Tryd.f62.body.getD .skip
def keep : List (Nat × List Nat) := []
noncomputable def used (_n : Nat) : List Ent := []
noncomputable def env (n : Nat) : Env := envOf te gl (used n) ⟨2, 9⟩ [] keep
noncomputable def tab (ρ : Type) (_n : Nat) : Tab ρ := { live := [(0, [0]), (1, [2])], xl := [], rl := [2], fz := [], jp := [], lp := [] }
def enc (a : Int) : List AV := [.pv (.int .i64 a)]
def dec : List AV → Option (Int)
  | [.pv (.int .i64 n_0)] => some n_0
  | _ => none
def emb (b : Bool) : AV × List AV := (.pv (.bool b), [])
def dr : AV → List AV → Option (Bool)
  | .pv (.bool r0), [] => some r0
  | _, _ => none
theorem dec_ok (vs : List AV) (a : Int) (h : dec vs = some a) : vs = enc a := by
  unfold dec at h
  split at h
  · cases h; rfl
  · cases h
theorem dr_ok (v : AV) (o : List AV) (b : Bool) (h : dr v o = some b) : emb b = (v, o) := by
  unfold dr at h
  split at h
  · cases h; rfl
  · cases h
noncomputable def ent (n : Nat) : Ent := { f := 62, ms := [.lend], α := Int, β := Bool, dec := dec, enc := enc, emb := emb, m := fun a => Gm.latin_side n a, hdec := dec_ok }
theorem run (n : Nat) (a : Int) : AEO (env n) (answers (Bool) (used n) (used n)) (tab (Bool) n) body (frameOf (enc a) 0) (bodyO (env n) Tryd.f62.results.toList (enc a) dr) = (ent n).m a := by kernel_rfl
theorem ok (n : Nat) (hl : EntsOK Tryd.prog gl (used n)) : EntOK Tryd.prog gl (ent n) :=
  fnO_sound (P := Tryd.prog) (e := ent n) (fn := Tryd.f62) (body := body) (l := used n) (te := te) (gl := gl) (n := ⟨2, 9⟩) (cut := []) (keep := keep) (T := tab (Bool) n) (dr := dr) Tryd.func62 (by kernel_rfl) (by kernel_rfl) te_ok (by kernel_rfl) (by kernel_rfl) hl (show Cov _ (env n) (tab (Bool) n) body from ⟨trivial, ⟨trivial, trivial⟩⟩) dr_ok (fun a => ⟨rfl, rfl⟩) (run n)
theorem all_ok (n : Nat) : EntOK Tryd.prog gl (ent n) := ok n trivial
end W_latin_side
namespace W_latin_Check_1
noncomputable def body : Code := Tryd.f63.body.getD .skip
def keep : List (Nat × List Nat) := []
noncomputable def used (_n : Nat) : List Ent := []
noncomputable def env (n : Nat) : Env := envOf te gl (used n) ⟨3, 11⟩ [] keep
noncomputable def tab (ρ : Type) (_n : Nat) : Tab ρ := { live := [(0, [0, 1]), (1, [3])], xl := [], rl := [3], fz := [], jp := [], lp := [] }
def enc (a : Int × Int) : List AV := [.pv (.int .i64 a.1), .lb [.pv (.int .i64 a.2)] 0]
def dec : List AV → Option (Int × Int)
  | [.pv (.int .i64 c_0), .lb [.pv (.int .i64 t1)] 0] => some (c_0, t1)
  | _ => none
def emb (b : Bool) : AV × List AV := (.pv (.bool b), [])
def dr : AV → List AV → Option (Bool)
  | .pv (.bool r0), [] => some r0
  | _, _ => none
theorem dec_ok (vs : List AV) (a : Int × Int) (h : dec vs = some a) : vs = enc a := by
  unfold dec at h
  split at h
  · cases h; rfl
  · cases h
theorem dr_ok (v : AV) (o : List AV) (b : Bool) (h : dr v o = some b) : emb b = (v, o) := by
  unfold dr at h
  split at h
  · cases h; rfl
  · cases h
noncomputable def ent (n : Nat) : Ent := { f := 63, ms := [.lend], α := Int × Int, β := Bool, dec := dec, enc := enc, emb := emb, m := fun a => Gm.latin_Check_1 n a.1 a.2, hdec := dec_ok }
theorem run (n : Nat) (a : Int × Int) : AEO (env n) (answers (Bool) (used n) (used n)) (tab (Bool) n) body (frameOf (enc a) 0) (bodyO (env n) Tryd.f63.results.toList (enc a) dr) = (ent n).m a := by kernel_rfl
theorem ok (n : Nat) (hl : EntsOK Tryd.prog gl (used n)) : EntOK Tryd.prog gl (ent n) :=
  fnO_sound (P := Tryd.prog) (e := ent n) (fn := Tryd.f63) (body := body) (l := used n) (te := te) (gl := gl) (n := ⟨3, 11⟩) (cut := []) (keep := keep) (T := tab (Bool) n) (dr := dr) Tryd.func63 (by kernel_rfl) (by kernel_rfl) te_ok (by kernel_rfl) (by kernel_rfl) hl (show Cov _ (env n) (tab (Bool) n) body from ⟨trivial, ⟨trivial, trivial⟩⟩) dr_ok (fun a => ⟨rfl, rfl⟩) (run n)
theorem all_ok (n : Nat) : EntOK Tryd.prog gl (ent n) := ok n trivial
end W_latin_Check_1
namespace W_slices_IndexFunc_intint__latin_Check_1
noncomputable def body : Code := Tryd.f100.body.getD .skip
def keep : List (Nat × List Nat) := [(2, [0, 1, 7, 8])]
noncomputable def used (n : Nat) : List Ent := [W_latin_Check_1.ent n]
noncomputable def env (n : Nat) : Env := envOf te gl (used n) ⟨4, 19⟩ [] keep
def F2 (c : (List Int) × Int × Int) (s : Int) : Fr := [(0, .ls (.ints .i64 c.1)), (1, .fn 63 [.lb [.pv (.int .i64 c.2.1)] 0]), (7, .pv (.int .i64 c.2.2)), (8, .pv (.int .i64 s))]
def d2 : Fr → Option (((List Int) × Int × Int) × (Int))
  | [(0, .ls (.ints .i64 s_0)), (1, .fn 63 [.lb [.pv (.int .i64 f1)] 0]), (7, .pv (.int .i64 t7)), (8, .pv (.int .i64 t8))] => some ((s_0, f1, t7), t8)
  | _ => none
def st2 {ρ : Type} (n : Nat) (c : (List Int) × Int × Int) (Ko : Exit → Fr → Option ρ) (s : Int) (nx : Int → Option ρ) : Option ρ :=
  Gm.slices_IndexFunc_intint__latin_Check_1_s2 n c.1 c.2.1 c.2.2 s nx (fun (y0 : Int) => Ko .ret [(4, .pv (.int .i64 y0))]) (Ko (.exit 0) [])
noncomputable def tab (ρ : Type) (n : Nat) : Tab ρ := { live := [(0, [0, 1]), (1, [0, 1, 7, 8]), (2, [0, 1, 7, 8, 9]), (3, [0, 1, 5, 7, 8]), (4, [0, 1, 5, 7, 8, 16]), (5, [4]), (6, [0, 1, 7, 8]), (7, [4])], xl := [(0, []), (1, [0, 1, 7, 8])], rl := [4], fz := [], jp := [], lp := [(2, fun A Ko => bnd (d2 A) fun p => iterM (st2 n p.1 Ko) n p.2)] }
noncomputable def b2 : Code := (cL (cB (c2 (c1 (c2 body)))))
theorem d2_ok (A : Fr) (c : (List Int) × Int × Int) (s : Int) (h : d2 A = some (c, s)) : A = F2 c s := by
  unfold d2 at h
  split at h
  · cases h; rfl
  · cases h
theorem step2 (ρ : Type) (n : Nat) (c : (List Int) × Int × Int) (Ko : Exit → Fr → Option ρ) (s : Int) (nx : ((List Int) × Int × Int) → (Int) → Option ρ) :
    AEO (env n) (answers ρ (used n) (used n)) (tab ρ n) b2 (F2 c s) (thenO (fun A => bnd (d2 (restr (keepOf (env n) b2) A)) fun p => nx p.1 p.2) Ko) = st2 n c Ko s (nx c) := by kernel_rfl
theorem lp2_ok {ρ : Type} (n : Nat) (hl : EntsOK Tryd.prog gl (used n)) : ∀ (A : Fr) (Ko : Exit → Fr → Option ρ) (r : ρ) (K : Exit → Fr → Prop), (bnd (d2 (restr (keepOf (env n) b2) A)) fun p => iterM (st2 n p.1 Ko) n p.2) = some r → (∀ e A, Ko e A = some r → K e A) → Gx.Sem Tryd.prog (env n) (.loop b2) A K :=
  fun A Ko r K h hk => loop_cod (P := Tryd.prog) (E := env n) (T := tab ρ n) (fun _ _ _ h => answers_ok h) F2 d2 (st2 n) d2_ok (show Cov _ (env n) (tab ρ n) b2 from ⟨trivial, ⟨⟨trivial, trivial⟩, ⟨⟨trivial, ⟨trivial, ⟨⟨trivial, trivial⟩, trivial⟩⟩⟩, trivial⟩⟩⟩) (fun c Ko s nx => step2 ρ n c Ko s nx) n A Ko r K h hk
def enc (a : (List Int) × Int) : List AV := [.ls (.ints .i64 a.1), .fn 63 [.lb [.pv (.int .i64 a.2)] 0]]
def dec : List AV → Option ((List Int) × Int)
  | [.ls (.ints .i64 s_0), .fn 63 [.lb [.pv (.int .i64 f1)] 0]] => some (s_0, f1)
  | _ => none
def emb (b : Int) : AV × List AV := (.pv (.int .i64 b), [])
def dr : AV → List AV → Option (Int)
  | .pv (.int .i64 r0), [] => some r0
  | _, _ => none
theorem dec_ok (vs : List AV) (a : (List Int) × Int) (h : dec vs = some a) : vs = enc a := by
  unfold dec at h
  split at h
  · cases h; rfl
  · cases h
theorem dr_ok (v : AV) (o : List AV) (b : Int) (h : dr v o = some b) : emb b = (v, o) := by
  unfold dr at h
  split at h
  · cases h; rfl
  · cases h
noncomputable def ent (n : Nat) : Ent := { f := 100, ms := [.lend, .lend], α := (List Int) × Int, β := Int, dec := dec, enc := enc, emb := emb, m := fun a => Gm.slices_IndexFunc_intint__latin_Check_1 n a.1 a.2, hdec := dec_ok }
theorem run (n : Nat) (a : (List Int) × Int) : AEO (env n) (answers (Int) (used n) (used n)) (tab (Int) n) body (frameOf (enc a) 0) (bodyO (env n) Tryd.f100.results.toList (enc a) dr) = (ent n).m a := by kernel_rfl
theorem ok (n : Nat) (hl : EntsOK Tryd.prog gl (used n)) : EntOK Tryd.prog gl (ent n) :=
  fnO_sound (P := Tryd.prog) (e := ent n) (fn := Tryd.f100) (body := body) (l := used n) (te := te) (gl := gl) (n := ⟨4, 19⟩) (cut := []) (keep := keep) (T := tab (Int) n) (dr := dr) Tryd.func100 (by kernel_rfl) (by kernel_rfl) te_ok (by kernel_rfl) (by kernel_rfl) hl (show Cov _ (env n) (tab (Int) n) body from ⟨trivial, ⟨⟨trivial, lp2_ok n hl⟩, ⟨trivial, trivial⟩⟩⟩) dr_ok (fun a => ⟨rfl, rfl⟩) (run n)
theorem all_ok (n : Nat) : EntOK Tryd.prog gl (ent n) := ok n ⟨W_latin_Check_1.all_ok n, trivial⟩
end W_slices_IndexFunc_intint__latin_Check_1
namespace W_slices_ContainsFunc_intint__latin_Check_1
noncomputable def body : Code := Tryd.f55.body.getD .skip
def keep : List (Nat × List Nat) := []
noncomputable def used (n : Nat) : List Ent := [W_slices_IndexFunc_intint__latin_Check_1.ent n]
noncomputable def env (n : Nat) : Env := envOf te gl (used n) ⟨4, 9⟩ [] keep
noncomputable def tab (ρ : Type) (_n : Nat) : Tab ρ := { live := [(0, [0, 1]), (1, [4])], xl := [], rl := [4], fz := [], jp := [], lp := [] }
def enc (a : (List Int) × Int) : List AV := [.ls (.ints .i64 a.1), .fn 63 [.lb [.pv (.int .i64 a.2)] 0]]
def dec : List AV → Option ((List Int) × Int)
  | [.ls (.ints .i64 s_0), .fn 63 [.lb [.pv (.int .i64 f1)] 0]] => some (s_0, f1)
  | _ => none
def emb (b : Bool) : AV × List AV := (.pv (.bool b), [])
def dr : AV → List AV → Option (Bool)
  | .pv (.bool r0), [] => some r0
  | _, _ => none
theorem dec_ok (vs : List AV) (a : (List Int) × Int) (h : dec vs = some a) : vs = enc a := by
  unfold dec at h
  split at h
  · cases h; rfl
  · cases h
theorem dr_ok (v : AV) (o : List AV) (b : Bool) (h : dr v o = some b) : emb b = (v, o) := by
  unfold dr at h
  split at h
  · cases h; rfl
  · cases h
noncomputable def ent (n : Nat) : Ent := { f := 55, ms := [.lend, .lend], α := (List Int) × Int, β := Bool, dec := dec, enc := enc, emb := emb, m := fun a => Gm.slices_ContainsFunc_intint__latin_Check_1 n a.1 a.2, hdec := dec_ok }
theorem run (n : Nat) (a : (List Int) × Int) : AEO (env n) (answers (Bool) (used n) (used n)) (tab (Bool) n) body (frameOf (enc a) 0) (bodyO (env n) Tryd.f55.results.toList (enc a) dr) = (ent n).m a := by kernel_rfl
theorem ok (n : Nat) (hl : EntsOK Tryd.prog gl (used n)) : EntOK Tryd.prog gl (ent n) :=
  fnO_sound (P := Tryd.prog) (e := ent n) (fn := Tryd.f55) (body := body) (l := used n) (te := te) (gl := gl) (n := ⟨4, 9⟩) (cut := []) (keep := keep) (T := tab (Bool) n) (dr := dr) Tryd.func55 (by kernel_rfl) (by kernel_rfl) te_ok (by kernel_rfl) (by kernel_rfl) hl (show Cov _ (env n) (tab (Bool) n) body from ⟨trivial, ⟨trivial, trivial⟩⟩) dr_ok (fun a => ⟨rfl, rfl⟩) (run n)
theorem all_ok (n : Nat) : EntOK Tryd.prog gl (ent n) := ok n ⟨W_slices_IndexFunc_intint__latin_Check_1.all_ok n, trivial⟩
end W_slices_ContainsFunc_intint__latin_Check_1
namespace W_latin_twice
noncomputable def body : Code := Tryd.f64.body.getD .skip
def keep : List (Nat × List Nat) := [(3, [0, 5, 6, 9, 10, 11])]
noncomputable def used (_n : Nat) : List Ent := []
noncomputable def env (n : Nat) : Env := envOf te gl (used n) ⟨4, 45⟩ [] keep
def F3 (c : Int × (List Int) × Int) (s : (List Bool) × (List Bool) × Int) : Fr := [(0, .pv (.int .i64 c.1)), (5, .ba (.bools s.1)), (6, .ba (.bools s.2.1)), (9, .ls (.ints .i64 c.2.1)), (10, .pv (.int .i64 c.2.2)), (11, .pv (.int .i64 s.2.2))]
def d3 : Fr → Option ((Int × (List Int) × Int) × ((List Bool) × (List Bool) × Int))
  | [(0, .pv (.int .i64 n_0)), (5, .ba (.bools rows5)), (6, .ba (.bools columns6)), (9, .ls (.ints .i64 t9)), (10, .pv (.int .i64 t10)), (11, .pv (.int .i64 t11))] => some ((n_0, t9, t10), (rows5, columns6, t11))
  | _ => none
def st3 {ρ : Type} (n : Nat) (c : Int × (List Int) × Int) (Ko : Exit → Fr → Option ρ) (s : (List Bool) × (List Bool) × Int) (nx : ((List Bool) × (List Bool) × Int) → Option ρ) : Option ρ :=
  Gm.latin_twice_s3 n c.1 c.2.1 c.2.2 s.1 s.2.1 s.2.2 (fun a0 a1 a2 => nx (a0, a1, a2)) (Ko .ret [(4, .pv (.bool true))]) (Ko (.exit 0) [])
noncomputable def tab (ρ : Type) (n : Nat) : Tab ρ := { live := [(0, [0, 1]), (1, [0, 1, 5, 6]), (2, [0, 5, 6, 9, 10, 11]), (3, [0, 5, 6, 9, 10, 11, 12]), (4, [0, 5, 6, 7, 8, 9, 10, 11]), (5, [0, 5, 6, 7, 8, 9, 10, 11, 31]), (6, [4]), (7, [0, 5, 6, 9, 10, 11]), (8, [0, 5, 6, 9, 10, 11]), (9, [4])], xl := [(0, []), (1, [0, 5, 6, 9, 10, 11])], rl := [4], fz := [], jp := [], lp := [(3, fun A Ko => bnd (d3 A) fun p => iterM (st3 n p.1 Ko) n p.2)] }
noncomputable def b3 : Code := (cL (cB (c2 (c1 (c2 (c2 body))))))
theorem d3_ok (A : Fr) (c : Int × (List Int) × Int) (s : (List Bool) × (List Bool) × Int) (h : d3 A = some (c, s)) : A = F3 c s := by
  unfold d3 at h
  split at h
  · cases h; rfl
  · cases h
theorem step3 (ρ : Type) (n : Nat) (c : Int × (List Int) × Int) (Ko : Exit → Fr → Option ρ) (s : (List Bool) × (List Bool) × Int) (nx : (Int × (List Int) × Int) → ((List Bool) × (List Bool) × Int) → Option ρ) :
    AEO (env n) (answers ρ (used n) (used n)) (tab ρ n) b3 (F3 c s) (thenO (fun A => bnd (d3 (restr (keepOf (env n) b3) A)) fun p => nx p.1 p.2) Ko) = st3 n c Ko s (nx c) := by kernel_rfl
theorem lp3_ok {ρ : Type} (n : Nat) (hl : EntsOK Tryd.prog gl (used n)) : ∀ (A : Fr) (Ko : Exit → Fr → Option ρ) (r : ρ) (K : Exit → Fr → Prop), (bnd (d3 (restr (keepOf (env n) b3) A)) fun p => iterM (st3 n p.1 Ko) n p.2) = some r → (∀ e A, Ko e A = some r → K e A) → Gx.Sem Tryd.prog (env n) (.loop b3) A K :=
  fun A Ko r K h hk => loop_cod (P := Tryd.prog) (E := env n) (T := tab ρ n) (fun _ _ _ h => answers_ok h) F3 d3 (st3 n) d3_ok (show Cov _ (env n) (tab ρ n) b3 from ⟨trivial, ⟨⟨trivial, trivial⟩, ⟨⟨trivial, ⟨⟨trivial, ⟨⟨trivial, trivial⟩, trivial⟩⟩, trivial⟩⟩, trivial⟩⟩⟩) (fun c Ko s nx => step3 ρ n c Ko s nx) n A Ko r K h hk
def enc (a : Int × (List Int)) : List AV := [.pv (.int .i64 a.1), .ls (.ints .i64 a.2)]
def dec : List AV → Option (Int × (List Int))
  | [.pv (.int .i64 n_0), .ls (.ints .i64 cells1)] => some (n_0, cells1)
  | _ => none
def emb (b : Bool) : AV × List AV := (.pv (.bool b), [])
def dr : AV → List AV → Option (Bool)
  | .pv (.bool r0), [] => some r0
  | _, _ => none
theorem dec_ok (vs : List AV) (a : Int × (List Int)) (h : dec vs = some a) : vs = enc a := by
  unfold dec at h
  split at h
  · cases h; rfl
  · cases h
theorem dr_ok (v : AV) (o : List AV) (b : Bool) (h : dr v o = some b) : emb b = (v, o) := by
  unfold dr at h
  split at h
  · cases h; rfl
  · cases h
noncomputable def ent (n : Nat) : Ent := { f := 64, ms := [.lend, .lend], α := Int × (List Int), β := Bool, dec := dec, enc := enc, emb := emb, m := fun a => Gm.latin_twice n a.1 a.2, hdec := dec_ok }
theorem run (n : Nat) (a : Int × (List Int)) : AEO (env n) (answers (Bool) (used n) (used n)) (tab (Bool) n) body (frameOf (enc a) 0) (bodyO (env n) Tryd.f64.results.toList (enc a) dr) = (ent n).m a := by kernel_rfl
theorem ok (n : Nat) (hl : EntsOK Tryd.prog gl (used n)) : EntOK Tryd.prog gl (ent n) :=
  fnO_sound (P := Tryd.prog) (e := ent n) (fn := Tryd.f64) (body := body) (l := used n) (te := te) (gl := gl) (n := ⟨4, 45⟩) (cut := []) (keep := keep) (T := tab (Bool) n) (dr := dr) Tryd.func64 (by kernel_rfl) (by kernel_rfl) te_ok (by kernel_rfl) (by kernel_rfl) hl (show Cov _ (env n) (tab (Bool) n) body from ⟨trivial, ⟨trivial, ⟨⟨trivial, lp3_ok n hl⟩, ⟨trivial, trivial⟩⟩⟩⟩) dr_ok (fun a => ⟨rfl, rfl⟩) (run n)
theorem all_ok (n : Nat) : EntOK Tryd.prog gl (ent n) := ok n trivial
end W_latin_twice
namespace W_latin_Check
noncomputable def body : Code := Tryd.f21.body.getD .skip
def keep : List (Nat × List Nat) := []
noncomputable def used (n : Nat) : List Ent := [W_latin_side.ent n, W_slices_ContainsFunc_intint__latin_Check_1.ent n, W_latin_twice.ent n]
noncomputable def env (n : Nat) : Env := envOf te gl (used n) ⟨1, 28⟩ [] keep
noncomputable def tab (ρ : Type) (_n : Nat) : Tab ρ := { live := [(0, [1]), (1, [1, 3]), (2, [1, 3, 6]), (3, [2]), (4, [1, 3, 10]), (5, [2]), (6, [1, 3, 18]), (7, [2]), (8, [23]), (9, [2]), (10, [2])], xl := [(0, [])], rl := [2], fz := [], jp := [], lp := [] }
def enc (a : Int × (List Int)) : List AV := [.ag [.pv (.int .i64 a.1), .ls (.ints .i64 a.2)]]
def dec : List AV → Option (Int × (List Int))
  | [.ag [.pv (.int .i64 s_0_0), .ls (.ints .i64 s_0_1)]] => some (s_0_0, s_0_1)
  | _ => none
def emb (b : Int) : AV × List AV := (.pv (.int .i64 b), [])
def dr : AV → List AV → Option (Int)
  | .pv (.int .i64 r0), [] => some r0
  | _, _ => none
theorem dec_ok (vs : List AV) (a : Int × (List Int)) (h : dec vs = some a) : vs = enc a := by
  unfold dec at h
  split at h
  · cases h; rfl
  · cases h
theorem dr_ok (v : AV) (o : List AV) (b : Int) (h : dr v o = some b) : emb b = (v, o) := by
  unfold dr at h
  split at h
  · cases h; rfl
  · cases h
noncomputable def ent (n : Nat) : Ent := { f := 21, ms := [.lend], α := Int × (List Int), β := Int, dec := dec, enc := enc, emb := emb, m := fun a => Gm.latin_Check n a.1 a.2, hdec := dec_ok }
theorem run (n : Nat) (a : Int × (List Int)) : AEO (env n) (answers (Int) (used n) (used n)) (tab (Int) n) body (frameOf (enc a) 0) (bodyO (env n) Tryd.f21.results.toList (enc a) dr) = (ent n).m a := by kernel_rfl
theorem ok (n : Nat) (hl : EntsOK Tryd.prog gl (used n)) : EntOK Tryd.prog gl (ent n) :=
  fnO_sound (P := Tryd.prog) (e := ent n) (fn := Tryd.f21) (body := body) (l := used n) (te := te) (gl := gl) (n := ⟨1, 28⟩) (cut := []) (keep := keep) (T := tab (Int) n) (dr := dr) Tryd.func21 (by kernel_rfl) (by kernel_rfl) te_ok (by kernel_rfl) (by kernel_rfl) hl (show Cov _ (env n) (tab (Int) n) body from ⟨trivial, ⟨trivial, ⟨⟨trivial, ⟨⟨trivial, trivial⟩, ⟨trivial, ⟨⟨trivial, trivial⟩, ⟨trivial, ⟨⟨trivial, trivial⟩, ⟨trivial, ⟨⟨trivial, trivial⟩, trivial⟩⟩⟩⟩⟩⟩⟩⟩, ⟨trivial, trivial⟩⟩⟩⟩) dr_ok (fun a => ⟨rfl, rfl⟩) (run n)
theorem all_ok (n : Nat) : EntOK Tryd.prog gl (ent n) := ok n ⟨W_latin_side.all_ok n, W_slices_ContainsFunc_intint__latin_Check_1.all_ok n, W_latin_twice.all_ok n, trivial⟩
end W_latin_Check
namespace W_quasi_open
noncomputable def body : Code := Tryd.f65.body.getD .skip
def keep : List (Nat × List Nat) := [(5, [2, 4, 18, 19, 20]), (12, [4, 9, 38, 39, 40])]
noncomputable def used (n : Nat) : List Ent := [W_latin_Check.ent n]
noncomputable def env (n : Nat) : Env := envOf te gl (used n) ⟨2, 59⟩ [] keep
def F5 (c : Int × (List Int) × (List Int) × Int × Int) (_s : Unit) : Fr := [(2, .bx [.pv (.int .i64 c.1), .ls (.ints .i64 c.2.1)]), (4, .ba (.ints .i64 c.2.2.1)), (18, .pv (.slice none 0 0)), (19, .pv (.int .i64 c.2.2.2.1)), (20, .pv (.int .i64 c.2.2.2.2))]
def d5 : Fr → Option ((Int × (List Int) × (List Int) × Int × Int) × (Unit))
  | [(2, .bx [.pv (.int .i64 s_2_0), .ls (.ints .i64 s_2_1)]), (4, .ba (.ints .i64 t4)), (18, .pv (.slice none 0 0)), (19, .pv (.int .i64 t19)), (20, .pv (.int .i64 t20))] => some ((s_2_0, s_2_1, t4, t19, t20), ())
  | _ => none
def st5 {ρ : Type} (n : Nat) (c : Int × (List Int) × (List Int) × Int × Int) (Ko : Exit → Fr → Option ρ) (_s : Unit) (nx : Unit → Option ρ) : Option ρ :=
  Gm.quasi_open_s5 n c.1 c.2.1 c.2.2.1 c.2.2.2.1 c.2.2.2.2 nx (Ko (.exit 0) [(2, .bx [.pv (.int .i64 c.1), .ls (.ints .i64 c.2.1)]), (4, .ba (.ints .i64 c.2.2.1))])
def F12 (c : (List Int) × (List Int) × Int) (s : (List Int) × Int) : Fr := [(4, .ba (.ints .i64 c.1)), (9, .ba (.ints .i64 s.1)), (38, .ls (.ints .i64 c.2.1)), (39, .pv (.int .i64 c.2.2)), (40, .pv (.int .i64 s.2))]
def d12 : Fr → Option (((List Int) × (List Int) × Int) × ((List Int) × Int))
  | [(4, .ba (.ints .i64 t4)), (9, .ba (.ints .i64 t9)), (38, .ls (.ints .i64 t38)), (39, .pv (.int .i64 t39)), (40, .pv (.int .i64 t40))] => some ((t4, t38, t39), (t9, t40))
  | _ => none
def st12 {ρ : Type} (n : Nat) (c : (List Int) × (List Int) × Int) (Ko : Exit → Fr → Option ρ) (s : (List Int) × Int) (nx : ((List Int) × Int) → Option ρ) : Option ρ :=
  Gm.quasi_open_s12 n c.1 c.2.1 c.2.2 s.1 s.2 (fun a0 a1 => nx (a0, a1)) (fun (y0 : List Int) => Ko (.exit 2) [(4, .ba (.ints .i64 c.1)), (9, .ba (.ints .i64 y0))])
noncomputable def tab (ρ : Type) (n : Nat) : Tab ρ := { live := [(0, [1, 2, 4]), (1, [1, 2, 4, 6]), (2, [1, 2, 4, 6, 15]), (3, [4, 5]), (4, [2, 4, 18, 19, 20]), (5, [2, 4, 18, 19, 20, 21]), (6, [2, 4, 8, 18, 19, 20]), (7, [2, 4, 18, 19, 20, 31]), (8, [4, 5]), (9, [2, 4, 18, 19, 20]), (10, [2, 4, 9]), (11, [4, 9, 38, 39, 40]), (12, [4, 9, 38, 39, 40, 41]), (13, [4, 9, 10, 11, 38, 39, 40]), (14, [4, 9, 38, 39, 40]), (15, [4, 9, 38, 39, 40]), (16, [4, 5])], xl := [(0, [2, 4]), (1, [2, 4, 18, 19, 20]), (2, [4, 9]), (3, [4, 9, 38, 39, 40])], rl := [4, 5], fz := [], jp := [], lp := [(5, fun A Ko => bnd (d5 A) fun p => iterM (st5 n p.1 Ko) n p.2), (12, fun A Ko => bnd (d12 A) fun p => iterM (st12 n p.1 Ko) n p.2)] }
noncomputable def b5 : Code := (cL (cB (c2 (c1 (c2 (c2 body))))))
theorem d5_ok (A : Fr) (c : Int × (List Int) × (List Int) × Int × Int) (s : Unit) (h : d5 A = some (c, s)) : A = F5 c s := by
  unfold d5 at h
  split at h
  · cases h; rfl
  · cases h
theorem step5 (ρ : Type) (n : Nat) (c : Int × (List Int) × (List Int) × Int × Int) (Ko : Exit → Fr → Option ρ) (s : Unit) (nx : (Int × (List Int) × (List Int) × Int × Int) → (Unit) → Option ρ) :
    AEO (env n) (answers ρ (used n) (used n)) (tab ρ n) b5 (F5 c s) (thenO (fun A => bnd (d5 (restr (keepOf (env n) b5) A)) fun p => nx p.1 p.2) Ko) = st5 n c Ko s (nx c) := by kernel_rfl
theorem lp5_ok {ρ : Type} (n : Nat) (hl : EntsOK Tryd.prog gl (used n)) : ∀ (A : Fr) (Ko : Exit → Fr → Option ρ) (r : ρ) (K : Exit → Fr → Prop), (bnd (d5 (restr (keepOf (env n) b5) A)) fun p => iterM (st5 n p.1 Ko) n p.2) = some r → (∀ e A, Ko e A = some r → K e A) → Gx.Sem Tryd.prog (env n) (.loop b5) A K :=
  fun A Ko r K h hk => loop_cod (P := Tryd.prog) (E := env n) (T := tab ρ n) (fun _ _ _ h => answers_ok h) F5 d5 (st5 n) d5_ok (show Cov _ (env n) (tab ρ n) b5 from ⟨trivial, ⟨⟨trivial, trivial⟩, ⟨⟨trivial, ⟨trivial, ⟨⟨trivial, trivial⟩, trivial⟩⟩⟩, trivial⟩⟩⟩) (fun c Ko s nx => step5 ρ n c Ko s nx) n A Ko r K h hk
noncomputable def b12 : Code := (cL (cB (c2 (c1 (c2 (c2 (c2 (c2 body))))))))
theorem d12_ok (A : Fr) (c : (List Int) × (List Int) × Int) (s : (List Int) × Int) (h : d12 A = some (c, s)) : A = F12 c s := by
  unfold d12 at h
  split at h
  · cases h; rfl
  · cases h
theorem step12 (ρ : Type) (n : Nat) (c : (List Int) × (List Int) × Int) (Ko : Exit → Fr → Option ρ) (s : (List Int) × Int) (nx : ((List Int) × (List Int) × Int) → ((List Int) × Int) → Option ρ) :
    AEO (env n) (answers ρ (used n) (used n)) (tab ρ n) b12 (F12 c s) (thenO (fun A => bnd (d12 (restr (keepOf (env n) b12) A)) fun p => nx p.1 p.2) Ko) = st12 n c Ko s (nx c) := by kernel_rfl
theorem lp12_ok {ρ : Type} (n : Nat) (hl : EntsOK Tryd.prog gl (used n)) : ∀ (A : Fr) (Ko : Exit → Fr → Option ρ) (r : ρ) (K : Exit → Fr → Prop), (bnd (d12 (restr (keepOf (env n) b12) A)) fun p => iterM (st12 n p.1 Ko) n p.2) = some r → (∀ e A, Ko e A = some r → K e A) → Gx.Sem Tryd.prog (env n) (.loop b12) A K :=
  fun A Ko r K h hk => loop_cod (P := Tryd.prog) (E := env n) (T := tab ρ n) (fun _ _ _ h => answers_ok h) F12 d12 (st12 n) d12_ok (show Cov _ (env n) (tab ρ n) b12 from ⟨trivial, ⟨⟨trivial, trivial⟩, ⟨⟨trivial, trivial⟩, trivial⟩⟩⟩) (fun c Ko s nx => step12 ρ n c Ko s nx) n A Ko r K h hk
def enc (a : Int × (List Int)) : List AV := [.ag [.pv (.int .i64 a.1), .ls (.ints .i64 a.2)], .pv (.slice none 0 0)]
def dec : List AV → Option (Int × (List Int))
  | [.ag [.pv (.int .i64 s_0_0), .ls (.ints .i64 s_0_1)], .pv (.slice none 0 0)] => some (s_0_0, s_0_1)
  | _ => none
def emb (b : (List Int) × Int) : AV × List AV := (.tp [.aa (.ints .i64 b.1), .pv (.int .i64 b.2)], [])
def dr : AV → List AV → Option ((List Int) × Int)
  | .tp [.aa (.ints .i64 r0), .pv (.int .i64 r1)], [] => some (r0, r1)
  | _, _ => none
theorem dec_ok (vs : List AV) (a : Int × (List Int)) (h : dec vs = some a) : vs = enc a := by
  unfold dec at h
  split at h
  · cases h; rfl
  · cases h
theorem dr_ok (v : AV) (o : List AV) (b : (List Int) × Int) (h : dr v o = some b) : emb b = (v, o) := by
  unfold dr at h
  split at h
  · cases h; rfl
  · cases h
noncomputable def ent (n : Nat) : Ent := { f := 65, ms := [.lend, .lend], α := Int × (List Int), β := (List Int) × Int, dec := dec, enc := enc, emb := emb, m := fun a => Gm.quasi_open n a.1 a.2, hdec := dec_ok }
theorem run (n : Nat) (a : Int × (List Int)) : AEO (env n) (answers ((List Int) × Int) (used n) (used n)) (tab ((List Int) × Int) n) body (frameOf (enc a) 0) (bodyO (env n) Tryd.f65.results.toList (enc a) dr) = (ent n).m a := by kernel_rfl
theorem ok (n : Nat) (hl : EntsOK Tryd.prog gl (used n)) : EntOK Tryd.prog gl (ent n) :=
  fnO_sound (P := Tryd.prog) (e := ent n) (fn := Tryd.f65) (body := body) (l := used n) (te := te) (gl := gl) (n := ⟨2, 59⟩) (cut := []) (keep := keep) (T := tab ((List Int) × Int) n) (dr := dr) Tryd.func65 (by kernel_rfl) (by kernel_rfl) te_ok (by kernel_rfl) (by kernel_rfl) hl (show Cov _ (env n) (tab ((List Int) × Int) n) body from ⟨trivial, ⟨⟨trivial, ⟨trivial, ⟨⟨trivial, trivial⟩, trivial⟩⟩⟩, ⟨⟨trivial, lp5_ok n hl⟩, ⟨trivial, ⟨⟨trivial, lp12_ok n hl⟩, ⟨trivial, trivial⟩⟩⟩⟩⟩⟩) dr_ok (fun a => ⟨rfl, rfl⟩) (run n)
theorem all_ok (n : Nat) : EntOK Tryd.prog gl (ent n) := ok n ⟨W_latin_Check.all_ok n, trivial⟩
end W_quasi_open
namespace W_quasi_Commutes_1
noncomputable def body : Code := Tryd.f67.body.getD .skip
def keep : List (Nat × List Nat) := []
noncomputable def used (_n : Nat) : List Ent := []
noncomputable def env (n : Nat) : Env := envOf te gl (used n) ⟨7, 21⟩ [] keep
noncomputable def tab (ρ : Type) (_n : Nat) : Tab ρ := { live := [(0, [0, 1, 3]), (1, [7])], xl := [], rl := [7], fz := [], jp := [], lp := [] }
def enc (a : Int × Int × Int × (List Int)) : List AV := [.pv (.int .i64 a.1), .pv (.int .i64 a.2.1), .pv (.int .i64 a.2.2.1), .la (.ints .i64 a.2.2.2) 0]
def dec : List AV → Option (Int × Int × Int × (List Int))
  | [.pv (.int .i64 x0), .pv (.int .i64 y1), .pv (.int .i64 t2), .la (.ints .i64 t3) 0] => some (x0, y1, t2, t3)
  | _ => none
def emb (b : Bool) : AV × List AV := (.pv (.bool b), [])
def dr : AV → List AV → Option (Bool)
  | .pv (.bool r0), [] => some r0
  | _, _ => none
theorem dec_ok (vs : List AV) (a : Int × Int × Int × (List Int)) (h : dec vs = some a) : vs = enc a := by
  unfold dec at h
  split at h
  · cases h; rfl
  · cases h
theorem dr_ok (v : AV) (o : List AV) (b : Bool) (h : dr v o = some b) : emb b = (v, o) := by
  unfold dr at h
  split at h
  · cases h; rfl
  · cases h
noncomputable def ent (n : Nat) : Ent := { f := 67, ms := [.lend, .lend, .lend], α := Int × Int × Int × (List Int), β := Bool, dec := dec, enc := enc, emb := emb, m := fun a => Gm.quasi_Commutes_1 n a.1 a.2.1 a.2.2.1 a.2.2.2, hdec := dec_ok }
theorem run (n : Nat) (a : Int × Int × Int × (List Int)) : AEO (env n) (answers (Bool) (used n) (used n)) (tab (Bool) n) body (frameOf (enc a) 0) (bodyO (env n) Tryd.f67.results.toList (enc a) dr) = (ent n).m a := by kernel_rfl
theorem ok (n : Nat) (hl : EntsOK Tryd.prog gl (used n)) : EntOK Tryd.prog gl (ent n) :=
  fnO_sound (P := Tryd.prog) (e := ent n) (fn := Tryd.f67) (body := body) (l := used n) (te := te) (gl := gl) (n := ⟨7, 21⟩) (cut := []) (keep := keep) (T := tab (Bool) n) (dr := dr) Tryd.func67 (by kernel_rfl) (by kernel_rfl) te_ok (by kernel_rfl) (by kernel_rfl) hl (show Cov _ (env n) (tab (Bool) n) body from ⟨trivial, ⟨trivial, trivial⟩⟩) dr_ok (fun a => ⟨rfl, rfl⟩) (run n)
theorem all_ok (n : Nat) : EntOK Tryd.prog gl (ent n) := ok n trivial
end W_quasi_Commutes_1
namespace W_quasi_table_all__quasi_Commutes_1
noncomputable def body : Code := Tryd.f66.body.getD .skip
def keep : List (Nat × List Nat) := [(3, [1, 3, 7, 13, 14]), (8, [1, 7, 23, 24]), (11, [1, 7, 9, 23, 24, 28, 29]), (14, [1, 7, 9, 10, 23, 24, 28, 29, 33, 34])]
noncomputable def used (n : Nat) : List Ent := [W_quasi_Commutes_1.ent n]
noncomputable def env (n : Nat) : Env := envOf te gl (used n) ⟨3, 46⟩ [] keep
def F3 (c : (List Int) × (List Int) × Int) (s : (List Int) × Int) : Fr := [(1, .fn 67 [.la (.ints .i64 c.1) 0]), (3, .ba (.ints .i64 c.2.1)), (7, .ba (.ints .i64 s.1)), (13, .pv (.int .i64 c.2.2)), (14, .pv (.int .i64 s.2))]
def d3 : Fr → Option (((List Int) × (List Int) × Int) × ((List Int) × Int))
  | [(1, .fn 67 [.la (.ints .i64 is1) 0]), (3, .ba (.ints .i64 t3)), (7, .ba (.ints .i64 most7)), (13, .pv (.int .i64 t13)), (14, .pv (.int .i64 t14))] => some ((is1, t3, t13), (most7, t14))
  | _ => none
def st3 {ρ : Type} (n : Nat) (c : (List Int) × (List Int) × Int) (Ko : Exit → Fr → Option ρ) (s : (List Int) × Int) (nx : ((List Int) × Int) → Option ρ) : Option ρ :=
  Gm.quasi_table_all__quasi_Commutes_1_s3 n c.1 c.2.1 c.2.2 s.1 s.2 (fun a0 a1 => nx (a0, a1)) (fun (y0 : List Int) => Ko (.exit 0) [(1, .fn 67 [.la (.ints .i64 c.1) 0]), (7, .ba (.ints .i64 y0))])
def F14 (c : (List Int) × (List Int) × Int × Int × Int × Int × Int × Int × Int) (s : Int) : Fr := [(1, .fn 67 [.la (.ints .i64 c.1) 0]), (7, .ba (.ints .i64 c.2.1)), (9, .pv (.int .i64 c.2.2.1)), (10, .pv (.int .i64 c.2.2.2.1)), (23, .pv (.int .i64 c.2.2.2.2.1)), (24, .pv (.int .i64 c.2.2.2.2.2.1)), (28, .pv (.int .i64 c.2.2.2.2.2.2.1)), (29, .pv (.int .i64 c.2.2.2.2.2.2.2.1)), (33, .pv (.int .i64 c.2.2.2.2.2.2.2.2)), (34, .pv (.int .i64 s))]
def d14 : Fr → Option (((List Int) × (List Int) × Int × Int × Int × Int × Int × Int × Int) × (Int))
  | [(1, .fn 67 [.la (.ints .i64 is1) 0]), (7, .ba (.ints .i64 most7)), (9, .pv (.int .i64 x9)), (10, .pv (.int .i64 y10)), (23, .pv (.int .i64 t23)), (24, .pv (.int .i64 t24)), (28, .pv (.int .i64 t28)), (29, .pv (.int .i64 t29)), (33, .pv (.int .i64 t33)), (34, .pv (.int .i64 t34))] => some ((is1, most7, x9, y10, t23, t24, t28, t29, t33), t34)
  | _ => none
def st14 {ρ : Type} (n : Nat) (c : (List Int) × (List Int) × Int × Int × Int × Int × Int × Int × Int) (Ko : Exit → Fr → Option ρ) (s : Int) (nx : Int → Option ρ) : Option ρ :=
  Gm.quasi_table_all__quasi_Commutes_1_s14 n c.1 c.2.1 c.2.2.1 c.2.2.2.1 c.2.2.2.2.1 c.2.2.2.2.2.1 c.2.2.2.2.2.2.1 c.2.2.2.2.2.2.2.1 c.2.2.2.2.2.2.2.2 s nx (Ko .ret [(6, .pv (.bool false))]) (Ko (.exit 6) [(1, .fn 67 [.la (.ints .i64 c.1) 0]), (7, .ba (.ints .i64 c.2.1)), (9, .pv (.int .i64 c.2.2.1)), (23, .pv (.int .i64 c.2.2.2.2.1)), (24, .pv (.int .i64 c.2.2.2.2.2.1)), (28, .pv (.int .i64 c.2.2.2.2.2.2.1)), (29, .pv (.int .i64 c.2.2.2.2.2.2.2.1))])
def F11 (c : (List Int) × (List Int) × Int × Int × Int × Int) (s : Int) : Fr := [(1, .fn 67 [.la (.ints .i64 c.1) 0]), (7, .ba (.ints .i64 c.2.1)), (9, .pv (.int .i64 c.2.2.1)), (23, .pv (.int .i64 c.2.2.2.1)), (24, .pv (.int .i64 c.2.2.2.2.1)), (28, .pv (.int .i64 c.2.2.2.2.2)), (29, .pv (.int .i64 s))]
def d11 : Fr → Option (((List Int) × (List Int) × Int × Int × Int × Int) × (Int))
  | [(1, .fn 67 [.la (.ints .i64 is1) 0]), (7, .ba (.ints .i64 most7)), (9, .pv (.int .i64 x9)), (23, .pv (.int .i64 t23)), (24, .pv (.int .i64 t24)), (28, .pv (.int .i64 t28)), (29, .pv (.int .i64 t29))] => some ((is1, most7, x9, t23, t24, t28), t29)
  | _ => none
def st11 {ρ : Type} (n : Nat) (c : (List Int) × (List Int) × Int × Int × Int × Int) (Ko : Exit → Fr → Option ρ) (s : Int) (nx : Int → Option ρ) : Option ρ :=
  Gm.quasi_table_all__quasi_Commutes_1_s11 n c.1 c.2.1 c.2.2.1 c.2.2.2.1 c.2.2.2.2.1 c.2.2.2.2.2 s nx (Ko .ret [(6, .pv (.bool false))]) (Ko (.exit 4) [(1, .fn 67 [.la (.ints .i64 c.1) 0]), (7, .ba (.ints .i64 c.2.1)), (23, .pv (.int .i64 c.2.2.2.1)), (24, .pv (.int .i64 c.2.2.2.2.1))])
def F8 (c : (List Int) × (List Int) × Int) (s : Int) : Fr := [(1, .fn 67 [.la (.ints .i64 c.1) 0]), (7, .ba (.ints .i64 c.2.1)), (23, .pv (.int .i64 c.2.2)), (24, .pv (.int .i64 s))]
def d8 : Fr → Option (((List Int) × (List Int) × Int) × (Int))
  | [(1, .fn 67 [.la (.ints .i64 is1) 0]), (7, .ba (.ints .i64 most7)), (23, .pv (.int .i64 t23)), (24, .pv (.int .i64 t24))] => some ((is1, most7, t23), t24)
  | _ => none
def st8 {ρ : Type} (n : Nat) (c : (List Int) × (List Int) × Int) (Ko : Exit → Fr → Option ρ) (s : Int) (nx : Int → Option ρ) : Option ρ :=
  Gm.quasi_table_all__quasi_Commutes_1_s8 n c.1 c.2.1 c.2.2 s nx (Ko .ret [(6, .pv (.bool false))]) (Ko (.exit 2) [])
noncomputable def tab (ρ : Type) (n : Nat) : Tab ρ := { live := [(0, [1, 2, 3]), (1, [1, 2, 3, 7]), (2, [1, 3, 7, 13, 14]), (3, [1, 3, 7, 13, 14, 15]), (4, [1, 3, 7, 8, 13, 14]), (5, [1, 3, 7, 13, 14]), (6, [1, 3, 7, 13, 14]), (7, [1, 7, 23, 24]), (8, [1, 7, 23, 24, 25]), (9, [1, 7, 9, 23, 24]), (10, [1, 7, 9, 23, 24, 28, 29]), (11, [1, 7, 9, 23, 24, 28, 29, 30]), (12, [1, 7, 9, 10, 23, 24, 28, 29]), (13, [1, 7, 9, 10, 23, 24, 28, 29, 33, 34]), (14, [1, 7, 9, 10, 23, 24, 28, 29, 33, 34, 35]), (15, [1, 7, 9, 10, 11, 23, 24, 28, 29, 33, 34]), (16, [1, 7, 9, 10, 23, 24, 28, 29, 33, 34, 42]), (17, [6]), (18, [1, 7, 9, 10, 23, 24, 28, 29, 33, 34]), (19, [1, 7, 9, 23, 24, 28, 29]), (20, [1, 7, 23, 24]), (21, [6])], xl := [(0, [1, 7]), (1, [1, 3, 7, 13, 14]), (2, []), (3, [1, 7, 23, 24]), (4, [1, 7, 23, 24]), (5, [1, 7, 9, 23, 24, 28, 29]), (6, [1, 7, 9, 23, 24, 28, 29]), (7, [1, 7, 9, 10, 23, 24, 28, 29, 33, 34])], rl := [6], fz := [], jp := [], lp := [(3, fun A Ko => bnd (d3 A) fun p => iterM (st3 n p.1 Ko) n p.2), (14, fun A Ko => bnd (d14 A) fun p => iterM (st14 n p.1 Ko) n p.2), (11, fun A Ko => bnd (d11 A) fun p => iterM (st11 n p.1 Ko) n p.2), (8, fun A Ko => bnd (d8 A) fun p => iterM (st8 n p.1 Ko) n p.2)] }
noncomputable def b3 : Code := (cL (cB (c2 (c1 (c2 (c2 body))))))
theorem d3_ok (A : Fr) (c : (List Int) × (List Int) × Int) (s : (List Int) × Int) (h : d3 A = some (c, s)) : A = F3 c s := by
  unfold d3 at h
  split at h
  · cases h; rfl
  · cases h
theorem step3 (ρ : Type) (n : Nat) (c : (List Int) × (List Int) × Int) (Ko : Exit → Fr → Option ρ) (s : (List Int) × Int) (nx : ((List Int) × (List Int) × Int) → ((List Int) × Int) → Option ρ) :
    AEO (env n) (answers ρ (used n) (used n)) (tab ρ n) b3 (F3 c s) (thenO (fun A => bnd (d3 (restr (keepOf (env n) b3) A)) fun p => nx p.1 p.2) Ko) = st3 n c Ko s (nx c) := by kernel_rfl
theorem lp3_ok {ρ : Type} (n : Nat) (hl : EntsOK Tryd.prog gl (used n)) : ∀ (A : Fr) (Ko : Exit → Fr → Option ρ) (r : ρ) (K : Exit → Fr → Prop), (bnd (d3 (restr (keepOf (env n) b3) A)) fun p => iterM (st3 n p.1 Ko) n p.2) = some r → (∀ e A, Ko e A = some r → K e A) → Gx.Sem Tryd.prog (env n) (.loop b3) A K :=
  fun A Ko r K h hk => loop_cod (P := Tryd.prog) (E := env n) (T := tab ρ n) (fun _ _ _ h => answers_ok h) F3 d3 (st3 n) d3_ok (show Cov _ (env n) (tab ρ n) b3 from ⟨trivial, ⟨⟨trivial, trivial⟩, ⟨⟨trivial, trivial⟩, trivial⟩⟩⟩) (fun c Ko s nx => step3 ρ n c Ko s nx) n A Ko r K h hk
noncomputable def b14 : Code := (cL (cB (c2 (c2 (cB (c1 (c2 (c2 (cL (cB (c2 (c2 (cB (c1 (c2 (c2 (cL (cB (c2 (c1 (c2 (c2 (c2 body)))))))))))))))))))))))
theorem d14_ok (A : Fr) (c : (List Int) × (List Int) × Int × Int × Int × Int × Int × Int × Int) (s : Int) (h : d14 A = some (c, s)) : A = F14 c s := by
  unfold d14 at h
  split at h
  · cases h; rfl
  · cases h
theorem step14 (ρ : Type) (n : Nat) (c : (List Int) × (List Int) × Int × Int × Int × Int × Int × Int × Int) (Ko : Exit → Fr → Option ρ) (s : Int) (nx : ((List Int) × (List Int) × Int × Int × Int × Int × Int × Int × Int) → (Int) → Option ρ) :
    AEO (env n) (answers ρ (used n) (used n)) (tab ρ n) b14 (F14 c s) (thenO (fun A => bnd (d14 (restr (keepOf (env n) b14) A)) fun p => nx p.1 p.2) Ko) = st14 n c Ko s (nx c) := by kernel_rfl
theorem lp14_ok {ρ : Type} (n : Nat) (hl : EntsOK Tryd.prog gl (used n)) : ∀ (A : Fr) (Ko : Exit → Fr → Option ρ) (r : ρ) (K : Exit → Fr → Prop), (bnd (d14 (restr (keepOf (env n) b14) A)) fun p => iterM (st14 n p.1 Ko) n p.2) = some r → (∀ e A, Ko e A = some r → K e A) → Gx.Sem Tryd.prog (env n) (.loop b14) A K :=
  fun A Ko r K h hk => loop_cod (P := Tryd.prog) (E := env n) (T := tab ρ n) (fun _ _ _ h => answers_ok h) F14 d14 (st14 n) d14_ok (show Cov _ (env n) (tab ρ n) b14 from ⟨trivial, ⟨⟨trivial, trivial⟩, ⟨⟨trivial, ⟨trivial, ⟨⟨trivial, trivial⟩, trivial⟩⟩⟩, trivial⟩⟩⟩) (fun c Ko s nx => step14 ρ n c Ko s nx) n A Ko r K h hk
noncomputable def b11 : Code := (cL (cB (c2 (c2 (cB (c1 (c2 (c2 (cL (cB (c2 (c1 (c2 (c2 (c2 body)))))))))))))))
theorem d11_ok (A : Fr) (c : (List Int) × (List Int) × Int × Int × Int × Int) (s : Int) (h : d11 A = some (c, s)) : A = F11 c s := by
  unfold d11 at h
  split at h
  · cases h; rfl
  · cases h
theorem step11 (ρ : Type) (n : Nat) (c : (List Int) × (List Int) × Int × Int × Int × Int) (Ko : Exit → Fr → Option ρ) (s : Int) (nx : ((List Int) × (List Int) × Int × Int × Int × Int) → (Int) → Option ρ) :
    AEO (env n) (answers ρ (used n) (used n)) (tab ρ n) b11 (F11 c s) (thenO (fun A => bnd (d11 (restr (keepOf (env n) b11) A)) fun p => nx p.1 p.2) Ko) = st11 n c Ko s (nx c) := by kernel_rfl
theorem lp11_ok {ρ : Type} (n : Nat) (hl : EntsOK Tryd.prog gl (used n)) : ∀ (A : Fr) (Ko : Exit → Fr → Option ρ) (r : ρ) (K : Exit → Fr → Prop), (bnd (d11 (restr (keepOf (env n) b11) A)) fun p => iterM (st11 n p.1 Ko) n p.2) = some r → (∀ e A, Ko e A = some r → K e A) → Gx.Sem Tryd.prog (env n) (.loop b11) A K :=
  fun A Ko r K h hk => loop_cod (P := Tryd.prog) (E := env n) (T := tab ρ n) (fun _ _ _ h => answers_ok h) F11 d11 (st11 n) d11_ok (show Cov _ (env n) (tab ρ n) b11 from ⟨trivial, ⟨⟨trivial, trivial⟩, ⟨⟨trivial, ⟨trivial, lp14_ok n hl⟩⟩, trivial⟩⟩⟩) (fun c Ko s nx => step11 ρ n c Ko s nx) n A Ko r K h hk
noncomputable def b8 : Code := (cL (cB (c2 (c1 (c2 (c2 (c2 body)))))))
theorem d8_ok (A : Fr) (c : (List Int) × (List Int) × Int) (s : Int) (h : d8 A = some (c, s)) : A = F8 c s := by
  unfold d8 at h
  split at h
  · cases h; rfl
  · cases h
theorem step8 (ρ : Type) (n : Nat) (c : (List Int) × (List Int) × Int) (Ko : Exit → Fr → Option ρ) (s : Int) (nx : ((List Int) × (List Int) × Int) → (Int) → Option ρ) :
    AEO (env n) (answers ρ (used n) (used n)) (tab ρ n) b8 (F8 c s) (thenO (fun A => bnd (d8 (restr (keepOf (env n) b8) A)) fun p => nx p.1 p.2) Ko) = st8 n c Ko s (nx c) := by kernel_rfl
theorem lp8_ok {ρ : Type} (n : Nat) (hl : EntsOK Tryd.prog gl (used n)) : ∀ (A : Fr) (Ko : Exit → Fr → Option ρ) (r : ρ) (K : Exit → Fr → Prop), (bnd (d8 (restr (keepOf (env n) b8) A)) fun p => iterM (st8 n p.1 Ko) n p.2) = some r → (∀ e A, Ko e A = some r → K e A) → Gx.Sem Tryd.prog (env n) (.loop b8) A K :=
  fun A Ko r K h hk => loop_cod (P := Tryd.prog) (E := env n) (T := tab ρ n) (fun _ _ _ h => answers_ok h) F8 d8 (st8 n) d8_ok (show Cov _ (env n) (tab ρ n) b8 from ⟨trivial, ⟨⟨trivial, trivial⟩, ⟨⟨trivial, ⟨trivial, lp11_ok n hl⟩⟩, trivial⟩⟩⟩) (fun c Ko s nx => step8 ρ n c Ko s nx) n A Ko r K h hk
def enc (a : (List Int) × (List Int) × Int) : List AV := [.aa (.ints .i64 a.1), .fn 67 [.la (.ints .i64 a.2.1) 0], .pv (.int .i64 a.2.2)]
def dec : List AV → Option ((List Int) × (List Int) × Int)
  | [.aa (.ints .i64 t0), .fn 67 [.la (.ints .i64 is1) 0], .pv (.int .i64 many2)] => some (t0, is1, many2)
  | _ => none
def emb (b : Bool) : AV × List AV := (.pv (.bool b), [])
def dr : AV → List AV → Option (Bool)
  | .pv (.bool r0), [] => some r0
  | _, _ => none
theorem dec_ok (vs : List AV) (a : (List Int) × (List Int) × Int) (h : dec vs = some a) : vs = enc a := by
  unfold dec at h
  split at h
  · cases h; rfl
  · cases h
theorem dr_ok (v : AV) (o : List AV) (b : Bool) (h : dr v o = some b) : emb b = (v, o) := by
  unfold dr at h
  split at h
  · cases h; rfl
  · cases h
noncomputable def ent (n : Nat) : Ent := { f := 66, ms := [.lend, .lend, .lend], α := (List Int) × (List Int) × Int, β := Bool, dec := dec, enc := enc, emb := emb, m := fun a => Gm.quasi_table_all__quasi_Commutes_1 n a.1 a.2.1 a.2.2, hdec := dec_ok }
theorem run (n : Nat) (a : (List Int) × (List Int) × Int) : AEO (env n) (answers (Bool) (used n) (used n)) (tab (Bool) n) body (frameOf (enc a) 0) (bodyO (env n) Tryd.f66.results.toList (enc a) dr) = (ent n).m a := by kernel_rfl
theorem ok (n : Nat) (hl : EntsOK Tryd.prog gl (used n)) : EntOK Tryd.prog gl (ent n) :=
  fnO_sound (P := Tryd.prog) (e := ent n) (fn := Tryd.f66) (body := body) (l := used n) (te := te) (gl := gl) (n := ⟨3, 46⟩) (cut := []) (keep := keep) (T := tab (Bool) n) (dr := dr) Tryd.func66 (by kernel_rfl) (by kernel_rfl) te_ok (by kernel_rfl) (by kernel_rfl) hl (show Cov _ (env n) (tab (Bool) n) body from ⟨trivial, ⟨trivial, ⟨⟨trivial, lp3_ok n hl⟩, ⟨⟨trivial, lp8_ok n hl⟩, ⟨trivial, trivial⟩⟩⟩⟩⟩) dr_ok (fun a => ⟨rfl, rfl⟩) (run n)
theorem all_ok (n : Nat) : EntOK Tryd.prog gl (ent n) := ok n ⟨W_quasi_Commutes_1.all_ok n, trivial⟩
end W_quasi_table_all__quasi_Commutes_1
namespace W_quasi_Commutes
noncomputable def body : Code := Tryd.f22.body.getD .skip
def keep : List (Nat × List Nat) := []
noncomputable def used (n : Nat) : List Ent := [W_quasi_open.ent n, W_quasi_table_all__quasi_Commutes_1.ent n]
noncomputable def env (n : Nat) : Env := envOf te gl (used n) ⟨1, 19⟩ [] keep
noncomputable def tab (ρ : Type) (_n : Nat) : Tab ρ := { live := [(0, [1]), (1, [4, 5]), (2, [2, 3])], xl := [], rl := [2, 3], fz := [], jp := [], lp := [] }
def enc (a : Int × (List Int)) : List AV := [.ag [.pv (.int .i64 a.1), .ls (.ints .i64 a.2)]]
def dec : List AV → Option (Int × (List Int))
  | [.ag [.pv (.int .i64 s_0_0), .ls (.ints .i64 s_0_1)]] => some (s_0_0, s_0_1)
  | _ => none
def emb (b : Bool × Int) : AV × List AV := (.tp [.pv (.bool b.1), .pv (.int .i64 b.2)], [])
def dr : AV → List AV → Option (Bool × Int)
  | .tp [.pv (.bool r0), .pv (.int .i64 r1)], [] => some (r0, r1)
  | _, _ => none
theorem dec_ok (vs : List AV) (a : Int × (List Int)) (h : dec vs = some a) : vs = enc a := by
  unfold dec at h
  split at h
  · cases h; rfl
  · cases h
theorem dr_ok (v : AV) (o : List AV) (b : Bool × Int) (h : dr v o = some b) : emb b = (v, o) := by
  unfold dr at h
  split at h
  · cases h; rfl
  · cases h
noncomputable def ent (n : Nat) : Ent := { f := 22, ms := [.lend], α := Int × (List Int), β := Bool × Int, dec := dec, enc := enc, emb := emb, m := fun a => Gm.quasi_Commutes n a.1 a.2, hdec := dec_ok }
theorem run (n : Nat) (a : Int × (List Int)) : AEO (env n) (answers (Bool × Int) (used n) (used n)) (tab (Bool × Int) n) body (frameOf (enc a) 0) (bodyO (env n) Tryd.f22.results.toList (enc a) dr) = (ent n).m a := by kernel_rfl
theorem ok (n : Nat) (hl : EntsOK Tryd.prog gl (used n)) : EntOK Tryd.prog gl (ent n) :=
  fnO_sound (P := Tryd.prog) (e := ent n) (fn := Tryd.f22) (body := body) (l := used n) (te := te) (gl := gl) (n := ⟨1, 19⟩) (cut := []) (keep := keep) (T := tab (Bool × Int) n) (dr := dr) Tryd.func22 (by kernel_rfl) (by kernel_rfl) te_ok (by kernel_rfl) (by kernel_rfl) hl (show Cov _ (env n) (tab (Bool × Int) n) body from ⟨trivial, ⟨trivial, ⟨trivial, trivial⟩⟩⟩) dr_ok (fun a => ⟨rfl, rfl⟩) (run n)
theorem all_ok (n : Nat) : EntOK Tryd.prog gl (ent n) := ok n ⟨W_quasi_open.all_ok n, W_quasi_table_all__quasi_Commutes_1.all_ok n, trivial⟩
end W_quasi_Commutes
namespace W_quasi_Idempotent_1
noncomputable def body : Code := Tryd.f68.body.getD .skip
def keep : List (Nat × List Nat) := []
noncomputable def used (_n : Nat) : List Ent := []
noncomputable def env (n : Nat) : Env := envOf te gl (used n) ⟨7, 16⟩ [] keep
noncomputable def tab (ρ : Type) (_n : Nat) : Tab ρ := { live := [(0, [0, 3]), (1, [7])], xl := [], rl := [7], fz := [], jp := [], lp := [] }
def enc (a : Int × Int × Int × (List Int)) : List AV := [.pv (.int .i64 a.1), .pv (.int .i64 a.2.1), .pv (.int .i64 a.2.2.1), .la (.ints .i64 a.2.2.2) 0]
def dec : List AV → Option (Int × Int × Int × (List Int))
  | [.pv (.int .i64 x0), .pv (.int .i64 t1), .pv (.int .i64 t2), .la (.ints .i64 t3) 0] => some (x0, t1, t2, t3)
  | _ => none
def emb (b : Bool) : AV × List AV := (.pv (.bool b), [])
def dr : AV → List AV → Option (Bool)
  | .pv (.bool r0), [] => some r0
  | _, _ => none
theorem dec_ok (vs : List AV) (a : Int × Int × Int × (List Int)) (h : dec vs = some a) : vs = enc a := by
  unfold dec at h
  split at h
  · cases h; rfl
  · cases h
theorem dr_ok (v : AV) (o : List AV) (b : Bool) (h : dr v o = some b) : emb b = (v, o) := by
  unfold dr at h
  split at h
  · cases h; rfl
  · cases h
noncomputable def ent (n : Nat) : Ent := { f := 68, ms := [.lend, .lend, .lend], α := Int × Int × Int × (List Int), β := Bool, dec := dec, enc := enc, emb := emb, m := fun a => Gm.quasi_Idempotent_1 n a.1 a.2.1 a.2.2.1 a.2.2.2, hdec := dec_ok }
theorem run (n : Nat) (a : Int × Int × Int × (List Int)) : AEO (env n) (answers (Bool) (used n) (used n)) (tab (Bool) n) body (frameOf (enc a) 0) (bodyO (env n) Tryd.f68.results.toList (enc a) dr) = (ent n).m a := by kernel_rfl
theorem ok (n : Nat) (hl : EntsOK Tryd.prog gl (used n)) : EntOK Tryd.prog gl (ent n) :=
  fnO_sound (P := Tryd.prog) (e := ent n) (fn := Tryd.f68) (body := body) (l := used n) (te := te) (gl := gl) (n := ⟨7, 16⟩) (cut := []) (keep := keep) (T := tab (Bool) n) (dr := dr) Tryd.func68 (by kernel_rfl) (by kernel_rfl) te_ok (by kernel_rfl) (by kernel_rfl) hl (show Cov _ (env n) (tab (Bool) n) body from ⟨trivial, ⟨trivial, trivial⟩⟩) dr_ok (fun a => ⟨rfl, rfl⟩) (run n)
theorem all_ok (n : Nat) : EntOK Tryd.prog gl (ent n) := ok n trivial
end W_quasi_Idempotent_1
namespace W_quasi_table_all__quasi_Idempotent_1
noncomputable def body : Code := Tryd.f66.body.getD .skip
def keep : List (Nat × List Nat) := [(3, [1, 3, 7, 13, 14]), (8, [1, 7, 23, 24]), (11, [1, 7, 9, 23, 24, 28, 29]), (14, [1, 7, 9, 10, 23, 24, 28, 29, 33, 34])]
noncomputable def used (n : Nat) : List Ent := [W_quasi_Idempotent_1.ent n]
noncomputable def env (n : Nat) : Env := envOf te gl (used n) ⟨3, 46⟩ [] keep
def F3 (c : (List Int) × (List Int) × Int) (s : (List Int) × Int) : Fr := [(1, .fn 68 [.la (.ints .i64 c.1) 0]), (3, .ba (.ints .i64 c.2.1)), (7, .ba (.ints .i64 s.1)), (13, .pv (.int .i64 c.2.2)), (14, .pv (.int .i64 s.2))]
def d3 : Fr → Option (((List Int) × (List Int) × Int) × ((List Int) × Int))
  | [(1, .fn 68 [.la (.ints .i64 is1) 0]), (3, .ba (.ints .i64 t3)), (7, .ba (.ints .i64 most7)), (13, .pv (.int .i64 t13)), (14, .pv (.int .i64 t14))] => some ((is1, t3, t13), (most7, t14))
  | _ => none
def st3 {ρ : Type} (n : Nat) (c : (List Int) × (List Int) × Int) (Ko : Exit → Fr → Option ρ) (s : (List Int) × Int) (nx : ((List Int) × Int) → Option ρ) : Option ρ :=
  Gm.quasi_table_all__quasi_Idempotent_1_s3 n c.1 c.2.1 c.2.2 s.1 s.2 (fun a0 a1 => nx (a0, a1)) (fun (y0 : List Int) => Ko (.exit 0) [(1, .fn 68 [.la (.ints .i64 c.1) 0]), (7, .ba (.ints .i64 y0))])
def F14 (c : (List Int) × (List Int) × Int × Int × Int × Int × Int × Int × Int) (s : Int) : Fr := [(1, .fn 68 [.la (.ints .i64 c.1) 0]), (7, .ba (.ints .i64 c.2.1)), (9, .pv (.int .i64 c.2.2.1)), (10, .pv (.int .i64 c.2.2.2.1)), (23, .pv (.int .i64 c.2.2.2.2.1)), (24, .pv (.int .i64 c.2.2.2.2.2.1)), (28, .pv (.int .i64 c.2.2.2.2.2.2.1)), (29, .pv (.int .i64 c.2.2.2.2.2.2.2.1)), (33, .pv (.int .i64 c.2.2.2.2.2.2.2.2)), (34, .pv (.int .i64 s))]
def d14 : Fr → Option (((List Int) × (List Int) × Int × Int × Int × Int × Int × Int × Int) × (Int))
  | [(1, .fn 68 [.la (.ints .i64 is1) 0]), (7, .ba (.ints .i64 most7)), (9, .pv (.int .i64 x9)), (10, .pv (.int .i64 y10)), (23, .pv (.int .i64 t23)), (24, .pv (.int .i64 t24)), (28, .pv (.int .i64 t28)), (29, .pv (.int .i64 t29)), (33, .pv (.int .i64 t33)), (34, .pv (.int .i64 t34))] => some ((is1, most7, x9, y10, t23, t24, t28, t29, t33), t34)
  | _ => none
def st14 {ρ : Type} (n : Nat) (c : (List Int) × (List Int) × Int × Int × Int × Int × Int × Int × Int) (Ko : Exit → Fr → Option ρ) (s : Int) (nx : Int → Option ρ) : Option ρ :=
  Gm.quasi_table_all__quasi_Idempotent_1_s14 n c.1 c.2.1 c.2.2.1 c.2.2.2.1 c.2.2.2.2.1 c.2.2.2.2.2.1 c.2.2.2.2.2.2.1 c.2.2.2.2.2.2.2.1 c.2.2.2.2.2.2.2.2 s nx (Ko .ret [(6, .pv (.bool false))]) (Ko (.exit 6) [(1, .fn 68 [.la (.ints .i64 c.1) 0]), (7, .ba (.ints .i64 c.2.1)), (9, .pv (.int .i64 c.2.2.1)), (23, .pv (.int .i64 c.2.2.2.2.1)), (24, .pv (.int .i64 c.2.2.2.2.2.1)), (28, .pv (.int .i64 c.2.2.2.2.2.2.1)), (29, .pv (.int .i64 c.2.2.2.2.2.2.2.1))])
def F11 (c : (List Int) × (List Int) × Int × Int × Int × Int) (s : Int) : Fr := [(1, .fn 68 [.la (.ints .i64 c.1) 0]), (7, .ba (.ints .i64 c.2.1)), (9, .pv (.int .i64 c.2.2.1)), (23, .pv (.int .i64 c.2.2.2.1)), (24, .pv (.int .i64 c.2.2.2.2.1)), (28, .pv (.int .i64 c.2.2.2.2.2)), (29, .pv (.int .i64 s))]
def d11 : Fr → Option (((List Int) × (List Int) × Int × Int × Int × Int) × (Int))
  | [(1, .fn 68 [.la (.ints .i64 is1) 0]), (7, .ba (.ints .i64 most7)), (9, .pv (.int .i64 x9)), (23, .pv (.int .i64 t23)), (24, .pv (.int .i64 t24)), (28, .pv (.int .i64 t28)), (29, .pv (.int .i64 t29))] => some ((is1, most7, x9, t23, t24, t28), t29)
  | _ => none
def st11 {ρ : Type} (n : Nat) (c : (List Int) × (List Int) × Int × Int × Int × Int) (Ko : Exit → Fr → Option ρ) (s : Int) (nx : Int → Option ρ) : Option ρ :=
  Gm.quasi_table_all__quasi_Idempotent_1_s11 n c.1 c.2.1 c.2.2.1 c.2.2.2.1 c.2.2.2.2.1 c.2.2.2.2.2 s nx (Ko .ret [(6, .pv (.bool false))]) (Ko (.exit 4) [(1, .fn 68 [.la (.ints .i64 c.1) 0]), (7, .ba (.ints .i64 c.2.1)), (23, .pv (.int .i64 c.2.2.2.1)), (24, .pv (.int .i64 c.2.2.2.2.1))])
def F8 (c : (List Int) × (List Int) × Int) (s : Int) : Fr := [(1, .fn 68 [.la (.ints .i64 c.1) 0]), (7, .ba (.ints .i64 c.2.1)), (23, .pv (.int .i64 c.2.2)), (24, .pv (.int .i64 s))]
def d8 : Fr → Option (((List Int) × (List Int) × Int) × (Int))
  | [(1, .fn 68 [.la (.ints .i64 is1) 0]), (7, .ba (.ints .i64 most7)), (23, .pv (.int .i64 t23)), (24, .pv (.int .i64 t24))] => some ((is1, most7, t23), t24)
  | _ => none
def st8 {ρ : Type} (n : Nat) (c : (List Int) × (List Int) × Int) (Ko : Exit → Fr → Option ρ) (s : Int) (nx : Int → Option ρ) : Option ρ :=
  Gm.quasi_table_all__quasi_Idempotent_1_s8 n c.1 c.2.1 c.2.2 s nx (Ko .ret [(6, .pv (.bool false))]) (Ko (.exit 2) [])
noncomputable def tab (ρ : Type) (n : Nat) : Tab ρ := { live := [(0, [1, 2, 3]), (1, [1, 2, 3, 7]), (2, [1, 3, 7, 13, 14]), (3, [1, 3, 7, 13, 14, 15]), (4, [1, 3, 7, 8, 13, 14]), (5, [1, 3, 7, 13, 14]), (6, [1, 3, 7, 13, 14]), (7, [1, 7, 23, 24]), (8, [1, 7, 23, 24, 25]), (9, [1, 7, 9, 23, 24]), (10, [1, 7, 9, 23, 24, 28, 29]), (11, [1, 7, 9, 23, 24, 28, 29, 30]), (12, [1, 7, 9, 10, 23, 24, 28, 29]), (13, [1, 7, 9, 10, 23, 24, 28, 29, 33, 34]), (14, [1, 7, 9, 10, 23, 24, 28, 29, 33, 34, 35]), (15, [1, 7, 9, 10, 11, 23, 24, 28, 29, 33, 34]), (16, [1, 7, 9, 10, 23, 24, 28, 29, 33, 34, 42]), (17, [6]), (18, [1, 7, 9, 10, 23, 24, 28, 29, 33, 34]), (19, [1, 7, 9, 23, 24, 28, 29]), (20, [1, 7, 23, 24]), (21, [6])], xl := [(0, [1, 7]), (1, [1, 3, 7, 13, 14]), (2, []), (3, [1, 7, 23, 24]), (4, [1, 7, 23, 24]), (5, [1, 7, 9, 23, 24, 28, 29]), (6, [1, 7, 9, 23, 24, 28, 29]), (7, [1, 7, 9, 10, 23, 24, 28, 29, 33, 34])], rl := [6], fz := [], jp := [], lp := [(3, fun A Ko => bnd (d3 A) fun p => iterM (st3 n p.1 Ko) n p.2), (14, fun A Ko => bnd (d14 A) fun p => iterM (st14 n p.1 Ko) n p.2), (11, fun A Ko => bnd (d11 A) fun p => iterM (st11 n p.1 Ko) n p.2), (8, fun A Ko => bnd (d8 A) fun p => iterM (st8 n p.1 Ko) n p.2)] }
noncomputable def b3 : Code := (cL (cB (c2 (c1 (c2 (c2 body))))))
theorem d3_ok (A : Fr) (c : (List Int) × (List Int) × Int) (s : (List Int) × Int) (h : d3 A = some (c, s)) : A = F3 c s := by
  unfold d3 at h
  split at h
  · cases h; rfl
  · cases h
theorem step3 (ρ : Type) (n : Nat) (c : (List Int) × (List Int) × Int) (Ko : Exit → Fr → Option ρ) (s : (List Int) × Int) (nx : ((List Int) × (List Int) × Int) → ((List Int) × Int) → Option ρ) :
    AEO (env n) (answers ρ (used n) (used n)) (tab ρ n) b3 (F3 c s) (thenO (fun A => bnd (d3 (restr (keepOf (env n) b3) A)) fun p => nx p.1 p.2) Ko) = st3 n c Ko s (nx c) := by kernel_rfl
theorem lp3_ok {ρ : Type} (n : Nat) (hl : EntsOK Tryd.prog gl (used n)) : ∀ (A : Fr) (Ko : Exit → Fr → Option ρ) (r : ρ) (K : Exit → Fr → Prop), (bnd (d3 (restr (keepOf (env n) b3) A)) fun p => iterM (st3 n p.1 Ko) n p.2) = some r → (∀ e A, Ko e A = some r → K e A) → Gx.Sem Tryd.prog (env n) (.loop b3) A K :=
  fun A Ko r K h hk => loop_cod (P := Tryd.prog) (E := env n) (T := tab ρ n) (fun _ _ _ h => answers_ok h) F3 d3 (st3 n) d3_ok (show Cov _ (env n) (tab ρ n) b3 from ⟨trivial, ⟨⟨trivial, trivial⟩, ⟨⟨trivial, trivial⟩, trivial⟩⟩⟩) (fun c Ko s nx => step3 ρ n c Ko s nx) n A Ko r K h hk
noncomputable def b14 : Code := (cL (cB (c2 (c2 (cB (c1 (c2 (c2 (cL (cB (c2 (c2 (cB (c1 (c2 (c2 (cL (cB (c2 (c1 (c2 (c2 (c2 body)))))))))))))))))))))))
theorem d14_ok (A : Fr) (c : (List Int) × (List Int) × Int × Int × Int × Int × Int × Int × Int) (s : Int) (h : d14 A = some (c, s)) : A = F14 c s := by
  unfold d14 at h
  split at h
  · cases h; rfl
  · cases h
theorem step14 (ρ : Type) (n : Nat) (c : (List Int) × (List Int) × Int × Int × Int × Int × Int × Int × Int) (Ko : Exit → Fr → Option ρ) (s : Int) (nx : ((List Int) × (List Int) × Int × Int × Int × Int × Int × Int × Int) → (Int) → Option ρ) :
    AEO (env n) (answers ρ (used n) (used n)) (tab ρ n) b14 (F14 c s) (thenO (fun A => bnd (d14 (restr (keepOf (env n) b14) A)) fun p => nx p.1 p.2) Ko) = st14 n c Ko s (nx c) := by kernel_rfl
theorem lp14_ok {ρ : Type} (n : Nat) (hl : EntsOK Tryd.prog gl (used n)) : ∀ (A : Fr) (Ko : Exit → Fr → Option ρ) (r : ρ) (K : Exit → Fr → Prop), (bnd (d14 (restr (keepOf (env n) b14) A)) fun p => iterM (st14 n p.1 Ko) n p.2) = some r → (∀ e A, Ko e A = some r → K e A) → Gx.Sem Tryd.prog (env n) (.loop b14) A K :=
  fun A Ko r K h hk => loop_cod (P := Tryd.prog) (E := env n) (T := tab ρ n) (fun _ _ _ h => answers_ok h) F14 d14 (st14 n) d14_ok (show Cov _ (env n) (tab ρ n) b14 from ⟨trivial, ⟨⟨trivial, trivial⟩, ⟨⟨trivial, ⟨trivial, ⟨⟨trivial, trivial⟩, trivial⟩⟩⟩, trivial⟩⟩⟩) (fun c Ko s nx => step14 ρ n c Ko s nx) n A Ko r K h hk
noncomputable def b11 : Code := (cL (cB (c2 (c2 (cB (c1 (c2 (c2 (cL (cB (c2 (c1 (c2 (c2 (c2 body)))))))))))))))
theorem d11_ok (A : Fr) (c : (List Int) × (List Int) × Int × Int × Int × Int) (s : Int) (h : d11 A = some (c, s)) : A = F11 c s := by
  unfold d11 at h
  split at h
  · cases h; rfl
  · cases h
theorem step11 (ρ : Type) (n : Nat) (c : (List Int) × (List Int) × Int × Int × Int × Int) (Ko : Exit → Fr → Option ρ) (s : Int) (nx : ((List Int) × (List Int) × Int × Int × Int × Int) → (Int) → Option ρ) :
    AEO (env n) (answers ρ (used n) (used n)) (tab ρ n) b11 (F11 c s) (thenO (fun A => bnd (d11 (restr (keepOf (env n) b11) A)) fun p => nx p.1 p.2) Ko) = st11 n c Ko s (nx c) := by kernel_rfl
theorem lp11_ok {ρ : Type} (n : Nat) (hl : EntsOK Tryd.prog gl (used n)) : ∀ (A : Fr) (Ko : Exit → Fr → Option ρ) (r : ρ) (K : Exit → Fr → Prop), (bnd (d11 (restr (keepOf (env n) b11) A)) fun p => iterM (st11 n p.1 Ko) n p.2) = some r → (∀ e A, Ko e A = some r → K e A) → Gx.Sem Tryd.prog (env n) (.loop b11) A K :=
  fun A Ko r K h hk => loop_cod (P := Tryd.prog) (E := env n) (T := tab ρ n) (fun _ _ _ h => answers_ok h) F11 d11 (st11 n) d11_ok (show Cov _ (env n) (tab ρ n) b11 from ⟨trivial, ⟨⟨trivial, trivial⟩, ⟨⟨trivial, ⟨trivial, lp14_ok n hl⟩⟩, trivial⟩⟩⟩) (fun c Ko s nx => step11 ρ n c Ko s nx) n A Ko r K h hk
noncomputable def b8 : Code := (cL (cB (c2 (c1 (c2 (c2 (c2 body)))))))
theorem d8_ok (A : Fr) (c : (List Int) × (List Int) × Int) (s : Int) (h : d8 A = some (c, s)) : A = F8 c s := by
  unfold d8 at h
  split at h
  · cases h; rfl
  · cases h
theorem step8 (ρ : Type) (n : Nat) (c : (List Int) × (List Int) × Int) (Ko : Exit → Fr → Option ρ) (s : Int) (nx : ((List Int) × (List Int) × Int) → (Int) → Option ρ) :
    AEO (env n) (answers ρ (used n) (used n)) (tab ρ n) b8 (F8 c s) (thenO (fun A => bnd (d8 (restr (keepOf (env n) b8) A)) fun p => nx p.1 p.2) Ko) = st8 n c Ko s (nx c) := by kernel_rfl
theorem lp8_ok {ρ : Type} (n : Nat) (hl : EntsOK Tryd.prog gl (used n)) : ∀ (A : Fr) (Ko : Exit → Fr → Option ρ) (r : ρ) (K : Exit → Fr → Prop), (bnd (d8 (restr (keepOf (env n) b8) A)) fun p => iterM (st8 n p.1 Ko) n p.2) = some r → (∀ e A, Ko e A = some r → K e A) → Gx.Sem Tryd.prog (env n) (.loop b8) A K :=
  fun A Ko r K h hk => loop_cod (P := Tryd.prog) (E := env n) (T := tab ρ n) (fun _ _ _ h => answers_ok h) F8 d8 (st8 n) d8_ok (show Cov _ (env n) (tab ρ n) b8 from ⟨trivial, ⟨⟨trivial, trivial⟩, ⟨⟨trivial, ⟨trivial, lp11_ok n hl⟩⟩, trivial⟩⟩⟩) (fun c Ko s nx => step8 ρ n c Ko s nx) n A Ko r K h hk
def enc (a : (List Int) × (List Int) × Int) : List AV := [.aa (.ints .i64 a.1), .fn 68 [.la (.ints .i64 a.2.1) 0], .pv (.int .i64 a.2.2)]
def dec : List AV → Option ((List Int) × (List Int) × Int)
  | [.aa (.ints .i64 t0), .fn 68 [.la (.ints .i64 is1) 0], .pv (.int .i64 many2)] => some (t0, is1, many2)
  | _ => none
def emb (b : Bool) : AV × List AV := (.pv (.bool b), [])
def dr : AV → List AV → Option (Bool)
  | .pv (.bool r0), [] => some r0
  | _, _ => none
theorem dec_ok (vs : List AV) (a : (List Int) × (List Int) × Int) (h : dec vs = some a) : vs = enc a := by
  unfold dec at h
  split at h
  · cases h; rfl
  · cases h
theorem dr_ok (v : AV) (o : List AV) (b : Bool) (h : dr v o = some b) : emb b = (v, o) := by
  unfold dr at h
  split at h
  · cases h; rfl
  · cases h
noncomputable def ent (n : Nat) : Ent := { f := 66, ms := [.lend, .lend, .lend], α := (List Int) × (List Int) × Int, β := Bool, dec := dec, enc := enc, emb := emb, m := fun a => Gm.quasi_table_all__quasi_Idempotent_1 n a.1 a.2.1 a.2.2, hdec := dec_ok }
theorem run (n : Nat) (a : (List Int) × (List Int) × Int) : AEO (env n) (answers (Bool) (used n) (used n)) (tab (Bool) n) body (frameOf (enc a) 0) (bodyO (env n) Tryd.f66.results.toList (enc a) dr) = (ent n).m a := by kernel_rfl
theorem ok (n : Nat) (hl : EntsOK Tryd.prog gl (used n)) : EntOK Tryd.prog gl (ent n) :=
  fnO_sound (P := Tryd.prog) (e := ent n) (fn := Tryd.f66) (body := body) (l := used n) (te := te) (gl := gl) (n := ⟨3, 46⟩) (cut := []) (keep := keep) (T := tab (Bool) n) (dr := dr) Tryd.func66 (by kernel_rfl) (by kernel_rfl) te_ok (by kernel_rfl) (by kernel_rfl) hl (show Cov _ (env n) (tab (Bool) n) body from ⟨trivial, ⟨trivial, ⟨⟨trivial, lp3_ok n hl⟩, ⟨⟨trivial, lp8_ok n hl⟩, ⟨trivial, trivial⟩⟩⟩⟩⟩) dr_ok (fun a => ⟨rfl, rfl⟩) (run n)
theorem all_ok (n : Nat) : EntOK Tryd.prog gl (ent n) := ok n ⟨W_quasi_Idempotent_1.all_ok n, trivial⟩
end W_quasi_table_all__quasi_Idempotent_1
namespace W_quasi_Idempotent
noncomputable def body : Code := Tryd.f23.body.getD .skip
def keep : List (Nat × List Nat) := []
noncomputable def used (n : Nat) : List Ent := [W_quasi_open.ent n, W_quasi_table_all__quasi_Idempotent_1.ent n]
noncomputable def env (n : Nat) : Env := envOf te gl (used n) ⟨1, 19⟩ [] keep
noncomputable def tab (ρ : Type) (_n : Nat) : Tab ρ := { live := [(0, [1]), (1, [4, 5]), (2, [2, 3])], xl := [], rl := [2, 3], fz := [], jp := [], lp := [] }
def enc (a : Int × (List Int)) : List AV := [.ag [.pv (.int .i64 a.1), .ls (.ints .i64 a.2)]]
def dec : List AV → Option (Int × (List Int))
  | [.ag [.pv (.int .i64 s_0_0), .ls (.ints .i64 s_0_1)]] => some (s_0_0, s_0_1)
  | _ => none
def emb (b : Bool × Int) : AV × List AV := (.tp [.pv (.bool b.1), .pv (.int .i64 b.2)], [])
def dr : AV → List AV → Option (Bool × Int)
  | .tp [.pv (.bool r0), .pv (.int .i64 r1)], [] => some (r0, r1)
  | _, _ => none
theorem dec_ok (vs : List AV) (a : Int × (List Int)) (h : dec vs = some a) : vs = enc a := by
  unfold dec at h
  split at h
  · cases h; rfl
  · cases h
theorem dr_ok (v : AV) (o : List AV) (b : Bool × Int) (h : dr v o = some b) : emb b = (v, o) := by
  unfold dr at h
  split at h
  · cases h; rfl
  · cases h
noncomputable def ent (n : Nat) : Ent := { f := 23, ms := [.lend], α := Int × (List Int), β := Bool × Int, dec := dec, enc := enc, emb := emb, m := fun a => Gm.quasi_Idempotent n a.1 a.2, hdec := dec_ok }
theorem run (n : Nat) (a : Int × (List Int)) : AEO (env n) (answers (Bool × Int) (used n) (used n)) (tab (Bool × Int) n) body (frameOf (enc a) 0) (bodyO (env n) Tryd.f23.results.toList (enc a) dr) = (ent n).m a := by kernel_rfl
theorem ok (n : Nat) (hl : EntsOK Tryd.prog gl (used n)) : EntOK Tryd.prog gl (ent n) :=
  fnO_sound (P := Tryd.prog) (e := ent n) (fn := Tryd.f23) (body := body) (l := used n) (te := te) (gl := gl) (n := ⟨1, 19⟩) (cut := []) (keep := keep) (T := tab (Bool × Int) n) (dr := dr) Tryd.func23 (by kernel_rfl) (by kernel_rfl) te_ok (by kernel_rfl) (by kernel_rfl) hl (show Cov _ (env n) (tab (Bool × Int) n) body from ⟨trivial, ⟨trivial, ⟨trivial, trivial⟩⟩⟩) dr_ok (fun a => ⟨rfl, rfl⟩) (run n)
theorem all_ok (n : Nat) : EntOK Tryd.prog gl (ent n) := ok n ⟨W_quasi_open.all_ok n, W_quasi_table_all__quasi_Idempotent_1.all_ok n, trivial⟩
end W_quasi_Idempotent
namespace W_quasi_table_closed_1
noncomputable def body : Code := Tryd.f105.body.getD .skip
def keep : List (Nat × List Nat) := []
noncomputable def used (_n : Nat) : List Ent := []
noncomputable def env (n : Nat) : Env := envOf te gl (used n) ⟨8, 33⟩ [] keep
noncomputable def tab (ρ : Type) (_n : Nat) : Tab ρ := { live := [(0, [0, 1, 3, 4]), (1, [8])], xl := [], rl := [8], fz := [], jp := [], lp := [] }
def enc (a : Int × Int × Int × Int × (List Int)) : List AV := [.pv (.int .i64 a.1), .pv (.int .i64 a.2.1), .pv (.int .i64 a.2.2.1), .lb [.pv (.int .i64 a.2.2.2.1)] 0, .la (.ints .i64 a.2.2.2.2) 0]
def dec : List AV → Option (Int × Int × Int × Int × (List Int))
  | [.pv (.int .i64 x0), .pv (.int .i64 y1), .pv (.int .i64 t2), .lb [.pv (.int .i64 t3)] 0, .la (.ints .i64 t4) 0] => some (x0, y1, t2, t3, t4)
  | _ => none
def emb (b : Bool) : AV × List AV := (.pv (.bool b), [])
def dr : AV → List AV → Option (Bool)
  | .pv (.bool r0), [] => some r0
  | _, _ => none
theorem dec_ok (vs : List AV) (a : Int × Int × Int × Int × (List Int)) (h : dec vs = some a) : vs = enc a := by
  unfold dec at h
  split at h
  · cases h; rfl
  · cases h
theorem dr_ok (v : AV) (o : List AV) (b : Bool) (h : dr v o = some b) : emb b = (v, o) := by
  unfold dr at h
  split at h
  · cases h; rfl
  · cases h
noncomputable def ent (n : Nat) : Ent := { f := 105, ms := [.lend, .lend, .lend], α := Int × Int × Int × Int × (List Int), β := Bool, dec := dec, enc := enc, emb := emb, m := fun a => Gm.quasi_table_closed_1 n a.1 a.2.1 a.2.2.1 a.2.2.2.1 a.2.2.2.2, hdec := dec_ok }
theorem run (n : Nat) (a : Int × Int × Int × Int × (List Int)) : AEO (env n) (answers (Bool) (used n) (used n)) (tab (Bool) n) body (frameOf (enc a) 0) (bodyO (env n) Tryd.f105.results.toList (enc a) dr) = (ent n).m a := by kernel_rfl
theorem ok (n : Nat) (hl : EntsOK Tryd.prog gl (used n)) : EntOK Tryd.prog gl (ent n) :=
  fnO_sound (P := Tryd.prog) (e := ent n) (fn := Tryd.f105) (body := body) (l := used n) (te := te) (gl := gl) (n := ⟨8, 33⟩) (cut := []) (keep := keep) (T := tab (Bool) n) (dr := dr) Tryd.func105 (by kernel_rfl) (by kernel_rfl) te_ok (by kernel_rfl) (by kernel_rfl) hl (show Cov _ (env n) (tab (Bool) n) body from ⟨trivial, ⟨trivial, trivial⟩⟩) dr_ok (fun a => ⟨rfl, rfl⟩) (run n)
theorem all_ok (n : Nat) : EntOK Tryd.prog gl (ent n) := ok n trivial
end W_quasi_table_closed_1
namespace W_quasi_table_all__quasi_table_closed_1
noncomputable def body : Code := Tryd.f66.body.getD .skip
def keep : List (Nat × List Nat) := [(3, [1, 3, 7, 13, 14]), (8, [1, 7, 23, 24]), (11, [1, 7, 9, 23, 24, 28, 29]), (14, [1, 7, 9, 10, 23, 24, 28, 29, 33, 34])]
noncomputable def used (n : Nat) : List Ent := [W_quasi_table_closed_1.ent n]
noncomputable def env (n : Nat) : Env := envOf te gl (used n) ⟨3, 46⟩ [] keep
def F3 (c : Int × (List Int) × (List Int) × Int) (s : (List Int) × Int) : Fr := [(1, .fn 105 [.lb [.pv (.int .i64 c.1)] 0, .la (.ints .i64 c.2.1) 0]), (3, .ba (.ints .i64 c.2.2.1)), (7, .ba (.ints .i64 s.1)), (13, .pv (.int .i64 c.2.2.2)), (14, .pv (.int .i64 s.2))]
def d3 : Fr → Option ((Int × (List Int) × (List Int) × Int) × ((List Int) × Int))
  | [(1, .fn 105 [.lb [.pv (.int .i64 is1_0)] 0, .la (.ints .i64 is1_1) 0]), (3, .ba (.ints .i64 t3)), (7, .ba (.ints .i64 most7)), (13, .pv (.int .i64 t13)), (14, .pv (.int .i64 t14))] => some ((is1_0, is1_1, t3, t13), (most7, t14))
  | _ => none
def st3 {ρ : Type} (n : Nat) (c : Int × (List Int) × (List Int) × Int) (Ko : Exit → Fr → Option ρ) (s : (List Int) × Int) (nx : ((List Int) × Int) → Option ρ) : Option ρ :=
  Gm.quasi_table_all__quasi_table_closed_1_s3 n c.1 c.2.1 c.2.2.1 c.2.2.2 s.1 s.2 (fun a0 a1 => nx (a0, a1)) (fun (y0 : List Int) => Ko (.exit 0) [(1, .fn 105 [.lb [.pv (.int .i64 c.1)] 0, .la (.ints .i64 c.2.1) 0]), (7, .ba (.ints .i64 y0))])
def F14 (c : Int × (List Int) × (List Int) × Int × Int × Int × Int × Int × Int × Int) (s : Int) : Fr := [(1, .fn 105 [.lb [.pv (.int .i64 c.1)] 0, .la (.ints .i64 c.2.1) 0]), (7, .ba (.ints .i64 c.2.2.1)), (9, .pv (.int .i64 c.2.2.2.1)), (10, .pv (.int .i64 c.2.2.2.2.1)), (23, .pv (.int .i64 c.2.2.2.2.2.1)), (24, .pv (.int .i64 c.2.2.2.2.2.2.1)), (28, .pv (.int .i64 c.2.2.2.2.2.2.2.1)), (29, .pv (.int .i64 c.2.2.2.2.2.2.2.2.1)), (33, .pv (.int .i64 c.2.2.2.2.2.2.2.2.2)), (34, .pv (.int .i64 s))]
def d14 : Fr → Option ((Int × (List Int) × (List Int) × Int × Int × Int × Int × Int × Int × Int) × (Int))
  | [(1, .fn 105 [.lb [.pv (.int .i64 is1_0)] 0, .la (.ints .i64 is1_1) 0]), (7, .ba (.ints .i64 most7)), (9, .pv (.int .i64 x9)), (10, .pv (.int .i64 y10)), (23, .pv (.int .i64 t23)), (24, .pv (.int .i64 t24)), (28, .pv (.int .i64 t28)), (29, .pv (.int .i64 t29)), (33, .pv (.int .i64 t33)), (34, .pv (.int .i64 t34))] => some ((is1_0, is1_1, most7, x9, y10, t23, t24, t28, t29, t33), t34)
  | _ => none
def st14 {ρ : Type} (n : Nat) (c : Int × (List Int) × (List Int) × Int × Int × Int × Int × Int × Int × Int) (Ko : Exit → Fr → Option ρ) (s : Int) (nx : Int → Option ρ) : Option ρ :=
  Gm.quasi_table_all__quasi_table_closed_1_s14 n c.1 c.2.1 c.2.2.1 c.2.2.2.1 c.2.2.2.2.1 c.2.2.2.2.2.1 c.2.2.2.2.2.2.1 c.2.2.2.2.2.2.2.1 c.2.2.2.2.2.2.2.2.1 c.2.2.2.2.2.2.2.2.2 s nx (Ko .ret [(6, .pv (.bool false))]) (Ko (.exit 6) [(1, .fn 105 [.lb [.pv (.int .i64 c.1)] 0, .la (.ints .i64 c.2.1) 0]), (7, .ba (.ints .i64 c.2.2.1)), (9, .pv (.int .i64 c.2.2.2.1)), (23, .pv (.int .i64 c.2.2.2.2.2.1)), (24, .pv (.int .i64 c.2.2.2.2.2.2.1)), (28, .pv (.int .i64 c.2.2.2.2.2.2.2.1)), (29, .pv (.int .i64 c.2.2.2.2.2.2.2.2.1))])
def F11 (c : Int × (List Int) × (List Int) × Int × Int × Int × Int) (s : Int) : Fr := [(1, .fn 105 [.lb [.pv (.int .i64 c.1)] 0, .la (.ints .i64 c.2.1) 0]), (7, .ba (.ints .i64 c.2.2.1)), (9, .pv (.int .i64 c.2.2.2.1)), (23, .pv (.int .i64 c.2.2.2.2.1)), (24, .pv (.int .i64 c.2.2.2.2.2.1)), (28, .pv (.int .i64 c.2.2.2.2.2.2)), (29, .pv (.int .i64 s))]
def d11 : Fr → Option ((Int × (List Int) × (List Int) × Int × Int × Int × Int) × (Int))
  | [(1, .fn 105 [.lb [.pv (.int .i64 is1_0)] 0, .la (.ints .i64 is1_1) 0]), (7, .ba (.ints .i64 most7)), (9, .pv (.int .i64 x9)), (23, .pv (.int .i64 t23)), (24, .pv (.int .i64 t24)), (28, .pv (.int .i64 t28)), (29, .pv (.int .i64 t29))] => some ((is1_0, is1_1, most7, x9, t23, t24, t28), t29)
  | _ => none
def st11 {ρ : Type} (n : Nat) (c : Int × (List Int) × (List Int) × Int × Int × Int × Int) (Ko : Exit → Fr → Option ρ) (s : Int) (nx : Int → Option ρ) : Option ρ :=
  Gm.quasi_table_all__quasi_table_closed_1_s11 n c.1 c.2.1 c.2.2.1 c.2.2.2.1 c.2.2.2.2.1 c.2.2.2.2.2.1 c.2.2.2.2.2.2 s nx (Ko .ret [(6, .pv (.bool false))]) (Ko (.exit 4) [(1, .fn 105 [.lb [.pv (.int .i64 c.1)] 0, .la (.ints .i64 c.2.1) 0]), (7, .ba (.ints .i64 c.2.2.1)), (23, .pv (.int .i64 c.2.2.2.2.1)), (24, .pv (.int .i64 c.2.2.2.2.2.1))])
def F8 (c : Int × (List Int) × (List Int) × Int) (s : Int) : Fr := [(1, .fn 105 [.lb [.pv (.int .i64 c.1)] 0, .la (.ints .i64 c.2.1) 0]), (7, .ba (.ints .i64 c.2.2.1)), (23, .pv (.int .i64 c.2.2.2)), (24, .pv (.int .i64 s))]
def d8 : Fr → Option ((Int × (List Int) × (List Int) × Int) × (Int))
  | [(1, .fn 105 [.lb [.pv (.int .i64 is1_0)] 0, .la (.ints .i64 is1_1) 0]), (7, .ba (.ints .i64 most7)), (23, .pv (.int .i64 t23)), (24, .pv (.int .i64 t24))] => some ((is1_0, is1_1, most7, t23), t24)
  | _ => none
def st8 {ρ : Type} (n : Nat) (c : Int × (List Int) × (List Int) × Int) (Ko : Exit → Fr → Option ρ) (s : Int) (nx : Int → Option ρ) : Option ρ :=
  Gm.quasi_table_all__quasi_table_closed_1_s8 n c.1 c.2.1 c.2.2.1 c.2.2.2 s nx (Ko .ret [(6, .pv (.bool false))]) (Ko (.exit 2) [])
noncomputable def tab (ρ : Type) (n : Nat) : Tab ρ := { live := [(0, [1, 2, 3]), (1, [1, 2, 3, 7]), (2, [1, 3, 7, 13, 14]), (3, [1, 3, 7, 13, 14, 15]), (4, [1, 3, 7, 8, 13, 14]), (5, [1, 3, 7, 13, 14]), (6, [1, 3, 7, 13, 14]), (7, [1, 7, 23, 24]), (8, [1, 7, 23, 24, 25]), (9, [1, 7, 9, 23, 24]), (10, [1, 7, 9, 23, 24, 28, 29]), (11, [1, 7, 9, 23, 24, 28, 29, 30]), (12, [1, 7, 9, 10, 23, 24, 28, 29]), (13, [1, 7, 9, 10, 23, 24, 28, 29, 33, 34]), (14, [1, 7, 9, 10, 23, 24, 28, 29, 33, 34, 35]), (15, [1, 7, 9, 10, 11, 23, 24, 28, 29, 33, 34]), (16, [1, 7, 9, 10, 23, 24, 28, 29, 33, 34, 42]), (17, [6]), (18, [1, 7, 9, 10, 23, 24, 28, 29, 33, 34]), (19, [1, 7, 9, 23, 24, 28, 29]), (20, [1, 7, 23, 24]), (21, [6])], xl := [(0, [1, 7]), (1, [1, 3, 7, 13, 14]), (2, []), (3, [1, 7, 23, 24]), (4, [1, 7, 23, 24]), (5, [1, 7, 9, 23, 24, 28, 29]), (6, [1, 7, 9, 23, 24, 28, 29]), (7, [1, 7, 9, 10, 23, 24, 28, 29, 33, 34])], rl := [6], fz := [], jp := [], lp := [(3, fun A Ko => bnd (d3 A) fun p => iterM (st3 n p.1 Ko) n p.2), (14, fun A Ko => bnd (d14 A) fun p => iterM (st14 n p.1 Ko) n p.2), (11, fun A Ko => bnd (d11 A) fun p => iterM (st11 n p.1 Ko) n p.2), (8, fun A Ko => bnd (d8 A) fun p => iterM (st8 n p.1 Ko) n p.2)] }
noncomputable def b3 : Code := (cL (cB (c2 (c1 (c2 (c2 body))))))
theorem d3_ok (A : Fr) (c : Int × (List Int) × (List Int) × Int) (s : (List Int) × Int) (h : d3 A = some (c, s)) : A = F3 c s := by
  unfold d3 at h
  split at h
  · cases h; rfl
  · cases h
theorem step3 (ρ : Type) (n : Nat) (c : Int × (List Int) × (List Int) × Int) (Ko : Exit → Fr → Option ρ) (s : (List Int) × Int) (nx : (Int × (List Int) × (List Int) × Int) → ((List Int) × Int) → Option ρ) :
    AEO (env n) (answers ρ (used n) (used n)) (tab ρ n) b3 (F3 c s) (thenO (fun A => bnd (d3 (restr (keepOf (env n) b3) A)) fun p => nx p.1 p.2) Ko) = st3 n c Ko s (nx c) := by kernel_rfl
theorem lp3_ok {ρ : Type} (n : Nat) (hl : EntsOK Tryd.prog gl (used n)) : ∀ (A : Fr) (Ko : Exit → Fr → Option ρ) (r : ρ) (K : Exit → Fr → Prop), (bnd (d3 (restr (keepOf (env n) b3) A)) fun p => iterM (st3 n p.1 Ko) n p.2) = some r → (∀ e A, Ko e A = some r → K e A) → Gx.Sem Tryd.prog (env n) (.loop b3) A K :=
  fun A Ko r K h hk => loop_cod (P := Tryd.prog) (E := env n) (T := tab ρ n) (fun _ _ _ h => answers_ok h) F3 d3 (st3 n) d3_ok (show Cov _ (env n) (tab ρ n) b3 from ⟨trivial, ⟨⟨trivial, trivial⟩, ⟨⟨trivial, trivial⟩, trivial⟩⟩⟩) (fun c Ko s nx => step3 ρ n c Ko s nx) n A Ko r K h hk
noncomputable def b14 : Code := (cL (cB (c2 (c2 (cB (c1 (c2 (c2 (cL (cB (c2 (c2 (cB (c1 (c2 (c2 (cL (cB (c2 (c1 (c2 (c2 (c2 body)))))))))))))))))))))))
theorem d14_ok (A : Fr) (c : Int × (List Int) × (List Int) × Int × Int × Int × Int × Int × Int × Int) (s : Int) (h : d14 A = some (c, s)) : A = F14 c s := by
  unfold d14 at h
  split at h
  · cases h; rfl
  · cases h
theorem step14 (ρ : Type) (n : Nat) (c : Int × (List Int) × (List Int) × Int × Int × Int × Int × Int × Int × Int) (Ko : Exit → Fr → Option ρ) (s : Int) (nx : (Int × (List Int) × (List Int) × Int × Int × Int × Int × Int × Int × Int) → (Int) → Option ρ) :
    AEO (env n) (answers ρ (used n) (used n)) (tab ρ n) b14 (F14 c s) (thenO (fun A => bnd (d14 (restr (keepOf (env n) b14) A)) fun p => nx p.1 p.2) Ko) = st14 n c Ko s (nx c) := by kernel_rfl
theorem lp14_ok {ρ : Type} (n : Nat) (hl : EntsOK Tryd.prog gl (used n)) : ∀ (A : Fr) (Ko : Exit → Fr → Option ρ) (r : ρ) (K : Exit → Fr → Prop), (bnd (d14 (restr (keepOf (env n) b14) A)) fun p => iterM (st14 n p.1 Ko) n p.2) = some r → (∀ e A, Ko e A = some r → K e A) → Gx.Sem Tryd.prog (env n) (.loop b14) A K :=
  fun A Ko r K h hk => loop_cod (P := Tryd.prog) (E := env n) (T := tab ρ n) (fun _ _ _ h => answers_ok h) F14 d14 (st14 n) d14_ok (show Cov _ (env n) (tab ρ n) b14 from ⟨trivial, ⟨⟨trivial, trivial⟩, ⟨⟨trivial, ⟨trivial, ⟨⟨trivial, trivial⟩, trivial⟩⟩⟩, trivial⟩⟩⟩) (fun c Ko s nx => step14 ρ n c Ko s nx) n A Ko r K h hk
noncomputable def b11 : Code := (cL (cB (c2 (c2 (cB (c1 (c2 (c2 (cL (cB (c2 (c1 (c2 (c2 (c2 body)))))))))))))))
theorem d11_ok (A : Fr) (c : Int × (List Int) × (List Int) × Int × Int × Int × Int) (s : Int) (h : d11 A = some (c, s)) : A = F11 c s := by
  unfold d11 at h
  split at h
  · cases h; rfl
  · cases h
theorem step11 (ρ : Type) (n : Nat) (c : Int × (List Int) × (List Int) × Int × Int × Int × Int) (Ko : Exit → Fr → Option ρ) (s : Int) (nx : (Int × (List Int) × (List Int) × Int × Int × Int × Int) → (Int) → Option ρ) :
    AEO (env n) (answers ρ (used n) (used n)) (tab ρ n) b11 (F11 c s) (thenO (fun A => bnd (d11 (restr (keepOf (env n) b11) A)) fun p => nx p.1 p.2) Ko) = st11 n c Ko s (nx c) := by kernel_rfl
theorem lp11_ok {ρ : Type} (n : Nat) (hl : EntsOK Tryd.prog gl (used n)) : ∀ (A : Fr) (Ko : Exit → Fr → Option ρ) (r : ρ) (K : Exit → Fr → Prop), (bnd (d11 (restr (keepOf (env n) b11) A)) fun p => iterM (st11 n p.1 Ko) n p.2) = some r → (∀ e A, Ko e A = some r → K e A) → Gx.Sem Tryd.prog (env n) (.loop b11) A K :=
  fun A Ko r K h hk => loop_cod (P := Tryd.prog) (E := env n) (T := tab ρ n) (fun _ _ _ h => answers_ok h) F11 d11 (st11 n) d11_ok (show Cov _ (env n) (tab ρ n) b11 from ⟨trivial, ⟨⟨trivial, trivial⟩, ⟨⟨trivial, ⟨trivial, lp14_ok n hl⟩⟩, trivial⟩⟩⟩) (fun c Ko s nx => step11 ρ n c Ko s nx) n A Ko r K h hk
noncomputable def b8 : Code := (cL (cB (c2 (c1 (c2 (c2 (c2 body)))))))
theorem d8_ok (A : Fr) (c : Int × (List Int) × (List Int) × Int) (s : Int) (h : d8 A = some (c, s)) : A = F8 c s := by
  unfold d8 at h
  split at h
  · cases h; rfl
  · cases h
theorem step8 (ρ : Type) (n : Nat) (c : Int × (List Int) × (List Int) × Int) (Ko : Exit → Fr → Option ρ) (s : Int) (nx : (Int × (List Int) × (List Int) × Int) → (Int) → Option ρ) :
    AEO (env n) (answers ρ (used n) (used n)) (tab ρ n) b8 (F8 c s) (thenO (fun A => bnd (d8 (restr (keepOf (env n) b8) A)) fun p => nx p.1 p.2) Ko) = st8 n c Ko s (nx c) := by kernel_rfl
theorem lp8_ok {ρ : Type} (n : Nat) (hl : EntsOK Tryd.prog gl (used n)) : ∀ (A : Fr) (Ko : Exit → Fr → Option ρ) (r : ρ) (K : Exit → Fr → Prop), (bnd (d8 (restr (keepOf (env n) b8) A)) fun p => iterM (st8 n p.1 Ko) n p.2) = some r → (∀ e A, Ko e A = some r → K e A) → Gx.Sem Tryd.prog (env n) (.loop b8) A K :=
  fun A Ko r K h hk => loop_cod (P := Tryd.prog) (E := env n) (T := tab ρ n) (fun _ _ _ h => answers_ok h) F8 d8 (st8 n) d8_ok (show Cov _ (env n) (tab ρ n) b8 from ⟨trivial, ⟨⟨trivial, trivial⟩, ⟨⟨trivial, ⟨trivial, lp11_ok n hl⟩⟩, trivial⟩⟩⟩) (fun c Ko s nx => step8 ρ n c Ko s nx) n A Ko r K h hk
def enc (a : (List Int) × Int × (List Int) × Int) : List AV := [.aa (.ints .i64 a.1), .fn 105 [.lb [.pv (.int .i64 a.2.1)] 0, .la (.ints .i64 a.2.2.1) 0], .pv (.int .i64 a.2.2.2)]
def dec : List AV → Option ((List Int) × Int × (List Int) × Int)
  | [.aa (.ints .i64 t0), .fn 105 [.lb [.pv (.int .i64 is1_0)] 0, .la (.ints .i64 is1_1) 0], .pv (.int .i64 many2)] => some (t0, is1_0, is1_1, many2)
  | _ => none
def emb (b : Bool) : AV × List AV := (.pv (.bool b), [])
def dr : AV → List AV → Option (Bool)
  | .pv (.bool r0), [] => some r0
  | _, _ => none
theorem dec_ok (vs : List AV) (a : (List Int) × Int × (List Int) × Int) (h : dec vs = some a) : vs = enc a := by
  unfold dec at h
  split at h
  · cases h; rfl
  · cases h
theorem dr_ok (v : AV) (o : List AV) (b : Bool) (h : dr v o = some b) : emb b = (v, o) := by
  unfold dr at h
  split at h
  · cases h; rfl
  · cases h
noncomputable def ent (n : Nat) : Ent := { f := 66, ms := [.lend, .lend, .lend], α := (List Int) × Int × (List Int) × Int, β := Bool, dec := dec, enc := enc, emb := emb, m := fun a => Gm.quasi_table_all__quasi_table_closed_1 n a.1 a.2.1 a.2.2.1 a.2.2.2, hdec := dec_ok }
theorem run (n : Nat) (a : (List Int) × Int × (List Int) × Int) : AEO (env n) (answers (Bool) (used n) (used n)) (tab (Bool) n) body (frameOf (enc a) 0) (bodyO (env n) Tryd.f66.results.toList (enc a) dr) = (ent n).m a := by kernel_rfl
theorem ok (n : Nat) (hl : EntsOK Tryd.prog gl (used n)) : EntOK Tryd.prog gl (ent n) :=
  fnO_sound (P := Tryd.prog) (e := ent n) (fn := Tryd.f66) (body := body) (l := used n) (te := te) (gl := gl) (n := ⟨3, 46⟩) (cut := []) (keep := keep) (T := tab (Bool) n) (dr := dr) Tryd.func66 (by kernel_rfl) (by kernel_rfl) te_ok (by kernel_rfl) (by kernel_rfl) hl (show Cov _ (env n) (tab (Bool) n) body from ⟨trivial, ⟨trivial, ⟨⟨trivial, lp3_ok n hl⟩, ⟨⟨trivial, lp8_ok n hl⟩, ⟨trivial, trivial⟩⟩⟩⟩⟩) dr_ok (fun a => ⟨rfl, rfl⟩) (run n)
theorem all_ok (n : Nat) : EntOK Tryd.prog gl (ent n) := ok n ⟨W_quasi_table_closed_1.all_ok n, trivial⟩
end W_quasi_table_all__quasi_table_closed_1
namespace W_quasi_table_closed
noncomputable def body : Code := Tryd.f69.body.getD .skip
def keep : List (Nat × List Nat) := []
noncomputable def used (n : Nat) : List Ent := [W_quasi_table_all__quasi_table_closed_1.ent n]
noncomputable def env (n : Nat) : Env := envOf te gl (used n) ⟨2, 8⟩ [] keep
noncomputable def tab (ρ : Type) (_n : Nat) : Tab ρ := { live := [(0, [2, 3]), (1, [4])], xl := [], rl := [4], fz := [], jp := [], lp := [] }
def enc (a : (List Int) × Int) : List AV := [.aa (.ints .i64 a.1), .pv (.int .i64 a.2)]
def dec : List AV → Option ((List Int) × Int)
  | [.aa (.ints .i64 t0), .pv (.int .i64 set1)] => some (t0, set1)
  | _ => none
def emb (b : Bool) : AV × List AV := (.pv (.bool b), [])
def dr : AV → List AV → Option (Bool)
  | .pv (.bool r0), [] => some r0
  | _, _ => none
theorem dec_ok (vs : List AV) (a : (List Int) × Int) (h : dec vs = some a) : vs = enc a := by
  unfold dec at h
  split at h
  · cases h; rfl
  · cases h
theorem dr_ok (v : AV) (o : List AV) (b : Bool) (h : dr v o = some b) : emb b = (v, o) := by
  unfold dr at h
  split at h
  · cases h; rfl
  · cases h
noncomputable def ent (n : Nat) : Ent := { f := 69, ms := [.lend, .lend], α := (List Int) × Int, β := Bool, dec := dec, enc := enc, emb := emb, m := fun a => Gm.quasi_table_closed n a.1 a.2, hdec := dec_ok }
theorem run (n : Nat) (a : (List Int) × Int) : AEO (env n) (answers (Bool) (used n) (used n)) (tab (Bool) n) body (frameOf (enc a) 0) (bodyO (env n) Tryd.f69.results.toList (enc a) dr) = (ent n).m a := by kernel_rfl
theorem ok (n : Nat) (hl : EntsOK Tryd.prog gl (used n)) : EntOK Tryd.prog gl (ent n) :=
  fnO_sound (P := Tryd.prog) (e := ent n) (fn := Tryd.f69) (body := body) (l := used n) (te := te) (gl := gl) (n := ⟨2, 8⟩) (cut := []) (keep := keep) (T := tab (Bool) n) (dr := dr) Tryd.func69 (by kernel_rfl) (by kernel_rfl) te_ok (by kernel_rfl) (by kernel_rfl) hl (show Cov _ (env n) (tab (Bool) n) body from ⟨trivial, ⟨trivial, trivial⟩⟩) dr_ok (fun a => ⟨rfl, rfl⟩) (run n)
theorem all_ok (n : Nat) : EntOK Tryd.prog gl (ent n) := ok n ⟨W_quasi_table_all__quasi_table_closed_1.all_ok n, trivial⟩
end W_quasi_table_closed
namespace W_quasi_Parts
noncomputable def body : Code := Tryd.f24.body.getD .skip
def keep : List (Nat × List Nat) := [(6, [4, 6, 7])]
noncomputable def used (n : Nat) : List Ent := [W_quasi_open.ent n, W_quasi_table_closed.ent n]
noncomputable def env (n : Nat) : Env := envOf te gl (used n) ⟨1, 29⟩ [] keep
def F6 (c : List Int) (s : Int × Int) : Fr := [(4, .ba (.ints .i64 c)), (6, .pv (.int .i64 s.1)), (7, .pv (.int .i64 s.2))]
def d6 : Fr → Option ((List Int) × (Int × Int))
  | [(4, .ba (.ints .i64 t4)), (6, .pv (.int .i64 count6)), (7, .pv (.int .i64 set7))] => some (t4, (count6, set7))
  | _ => none
def st6 {ρ : Type} (n : Nat) (c : List Int) (Ko : Exit → Fr → Option ρ) (s : Int × Int) (nx : (Int × Int) → Option ρ) : Option ρ :=
  Gm.quasi_Parts_s6 n c s.1 s.2 (fun a0 a1 => nx (a0, a1)) (fun (y0 : Int) => Ko (.exit 0) [(6, .pv (.int .i64 y0))])
noncomputable def tab (ρ : Type) (n : Nat) : Tab ρ := { live := [(0, [1]), (1, [4, 5]), (2, [4, 5, 14]), (3, [2, 3]), (4, [4, 6]), (5, [4, 6, 7]), (6, [4, 6, 7, 20]), (7, [4, 6, 7]), (8, [4, 6, 7, 25]), (9, [4, 6, 7]), (10, [2, 3])], xl := [(0, [6]), (1, [4, 6, 7])], rl := [2, 3], fz := [], jp := [], lp := [(6, fun A Ko => bnd (d6 A) fun p => iterM (st6 n p.1 Ko) n p.2)] }
noncomputable def b6 : Code := (cL (cB (c2 (c1 (c2 (c2 (c2 (c2 body))))))))
theorem d6_ok (A : Fr) (c : List Int) (s : Int × Int) (h : d6 A = some (c, s)) : A = F6 c s := by
  unfold d6 at h
  split at h
  · cases h; rfl
  · cases h
theorem step6 (ρ : Type) (n : Nat) (c : List Int) (Ko : Exit → Fr → Option ρ) (s : Int × Int) (nx : (List Int) → (Int × Int) → Option ρ) :
    AEO (env n) (answers ρ (used n) (used n)) (tab ρ n) b6 (F6 c s) (thenO (fun A => bnd (d6 (restr (keepOf (env n) b6) A)) fun p => nx p.1 p.2) Ko) = st6 n c Ko s (nx c) := by kernel_rfl
theorem lp6_ok {ρ : Type} (n : Nat) (hl : EntsOK Tryd.prog gl (used n)) : ∀ (A : Fr) (Ko : Exit → Fr → Option ρ) (r : ρ) (K : Exit → Fr → Prop), (bnd (d6 (restr (keepOf (env n) b6) A)) fun p => iterM (st6 n p.1 Ko) n p.2) = some r → (∀ e A, Ko e A = some r → K e A) → Gx.Sem Tryd.prog (env n) (.loop b6) A K :=
  fun A Ko r K h hk => loop_cod (P := Tryd.prog) (E := env n) (T := tab ρ n) (fun _ _ _ h => answers_ok h) F6 d6 (st6 n) d6_ok (show Cov _ (env n) (tab ρ n) b6 from ⟨⟨trivial, ⟨trivial, trivial⟩⟩, ⟨⟨trivial, ⟨trivial, trivial⟩⟩, trivial⟩⟩) (fun c Ko s nx => step6 ρ n c Ko s nx) n A Ko r K h hk
def enc (a : Int × (List Int)) : List AV := [.ag [.pv (.int .i64 a.1), .ls (.ints .i64 a.2)]]
def dec : List AV → Option (Int × (List Int))
  | [.ag [.pv (.int .i64 s_0_0), .ls (.ints .i64 s_0_1)]] => some (s_0_0, s_0_1)
  | _ => none
def emb (b : Int × Int) : AV × List AV := (.tp [.pv (.int .i64 b.1), .pv (.int .i64 b.2)], [])
def dr : AV → List AV → Option (Int × Int)
  | .tp [.pv (.int .i64 r0), .pv (.int .i64 r1)], [] => some (r0, r1)
  | _, _ => none
theorem dec_ok (vs : List AV) (a : Int × (List Int)) (h : dec vs = some a) : vs = enc a := by
  unfold dec at h
  split at h
  · cases h; rfl
  · cases h
theorem dr_ok (v : AV) (o : List AV) (b : Int × Int) (h : dr v o = some b) : emb b = (v, o) := by
  unfold dr at h
  split at h
  · cases h; rfl
  · cases h
noncomputable def ent (n : Nat) : Ent := { f := 24, ms := [.lend], α := Int × (List Int), β := Int × Int, dec := dec, enc := enc, emb := emb, m := fun a => Gm.quasi_Parts n a.1 a.2, hdec := dec_ok }
theorem run (n : Nat) (a : Int × (List Int)) : AEO (env n) (answers (Int × Int) (used n) (used n)) (tab (Int × Int) n) body (frameOf (enc a) 0) (bodyO (env n) Tryd.f24.results.toList (enc a) dr) = (ent n).m a := by kernel_rfl
theorem ok (n : Nat) (hl : EntsOK Tryd.prog gl (used n)) : EntOK Tryd.prog gl (ent n) :=
  fnO_sound (P := Tryd.prog) (e := ent n) (fn := Tryd.f24) (body := body) (l := used n) (te := te) (gl := gl) (n := ⟨1, 29⟩) (cut := []) (keep := keep) (T := tab (Int × Int) n) (dr := dr) Tryd.func24 (by kernel_rfl) (by kernel_rfl) te_ok (by kernel_rfl) (by kernel_rfl) hl (show Cov _ (env n) (tab (Int × Int) n) body from ⟨trivial, ⟨trivial, ⟨⟨trivial, ⟨⟨trivial, trivial⟩, trivial⟩⟩, ⟨trivial, ⟨⟨trivial, lp6_ok n hl⟩, ⟨trivial, trivial⟩⟩⟩⟩⟩⟩) dr_ok (fun a => ⟨rfl, rfl⟩) (run n)
theorem all_ok (n : Nat) : EntOK Tryd.prog gl (ent n) := ok n ⟨W_quasi_open.all_ok n, W_quasi_table_closed.all_ok n, trivial⟩
end W_quasi_Parts
namespace W_top_TopSteiner
noncomputable def body : Code := Tryd.f5.body.getD .skip
def keep : List (Nat × List Nat) := [(9, [4, 6, 7]), (13, [4, 6, 8]), (17, [4, 6, 8, 9, 10])]
noncomputable def used (n : Nat) : List Ent := [W_top_one.ent n, W_triple_Grow.ent n, W_perm_Unrank.ent n, W_latin_Check.ent n, W_quasi_Commutes.ent n, W_quasi_Idempotent.ent n, W_quasi_Parts.ent n]
noncomputable def env (n : Nat) : Env := envOf te gl (used n) ⟨2, 137⟩ [29] keep
def F9 (c : Int × (List (List Int)) × Int) (s : (List Int) × Int) : Fr := [(4, .bx [.pv (.int .i64 c.1), .sl (.rows c.2.1)]), (6, .bx [.pv (.int .i64 c.2.2), .ow 3 (.ints .i64 s.1)]), (7, .pv (.int .i64 s.2))]
def d9 : Fr → Option ((Int × (List (List Int)) × Int) × ((List Int) × Int))
  | [(4, .bx [.pv (.int .i64 t4_0), .sl (.rows t4_1)]), (6, .bx [.pv (.int .i64 t6_0), .ow 3 (.ints .i64 t6_1)]), (7, .pv (.int .i64 t7))] => some ((t4_0, t4_1, t6_0), (t6_1, t7))
  | _ => none
def st9 {ρ : Type} (n : Nat) (c : Int × (List (List Int)) × Int) (Ko : Exit → Fr → Option ρ) (s : (List Int) × Int) (nx : ((List Int) × Int) → Option ρ) : Option ρ :=
  Gm.top_TopSteiner_s9 n c.1 c.2.1 c.2.2 s.1 s.2 (fun a0 a1 => nx (a0, a1)) (fun (y0 : List Int) => Ko (.exit 0) [(4, .bx [.pv (.int .i64 c.1), .sl (.rows c.2.1)]), (6, .bx [.pv (.int .i64 c.2.2), .ow 3 (.ints .i64 y0)])])
def F17 (c : Int × (List (List Int)) × Int × Int × (List Int)) (s : (List Int) × Int) : Fr := [(4, .bx [.pv (.int .i64 c.1), .sl (.rows c.2.1)]), (6, .bx [.pv (.int .i64 c.2.2.1), .ow 3 (.ints .i64 s.1)]), (8, .pv (.int .i64 c.2.2.2.1)), (9, .sl (.ints .i64 c.2.2.2.2)), (10, .pv (.int .i64 s.2))]
def d17 : Fr → Option ((Int × (List (List Int)) × Int × Int × (List Int)) × ((List Int) × Int))
  | [(4, .bx [.pv (.int .i64 t4_0), .sl (.rows t4_1)]), (6, .bx [.pv (.int .i64 t6_0), .ow 3 (.ints .i64 t6_1)]), (8, .pv (.int .i64 t8)), (9, .sl (.ints .i64 t9)), (10, .pv (.int .i64 t10))] => some ((t4_0, t4_1, t6_0, t8, t9), (t6_1, t10))
  | _ => none
def st17 {ρ : Type} (n : Nat) (c : Int × (List (List Int)) × Int × Int × (List Int)) (Ko : Exit → Fr → Option ρ) (s : (List Int) × Int) (nx : ((List Int) × Int) → Option ρ) : Option ρ :=
  Gm.top_TopSteiner_s17 n c.1 c.2.1 c.2.2.1 c.2.2.2.1 c.2.2.2.2 s.1 s.2 (fun a0 a1 => nx (a0, a1)) (Ko .ret [(2, .pv (.bool false))]) (fun (y0 : List Int) => Ko (.exit 4) [(4, .bx [.pv (.int .i64 c.1), .sl (.rows c.2.1)]), (6, .bx [.pv (.int .i64 c.2.2.1), .ow 3 (.ints .i64 y0)]), (8, .pv (.int .i64 c.2.2.2.1))])
def F13 (c : Int × (List (List Int)) × Int) (s : (List Int) × Int) : Fr := [(4, .bx [.pv (.int .i64 c.1), .sl (.rows c.2.1)]), (6, .bx [.pv (.int .i64 c.2.2), .ow 3 (.ints .i64 s.1)]), (8, .pv (.int .i64 s.2))]
def d13 : Fr → Option ((Int × (List (List Int)) × Int) × ((List Int) × Int))
  | [(4, .bx [.pv (.int .i64 t4_0), .sl (.rows t4_1)]), (6, .bx [.pv (.int .i64 t6_0), .ow 3 (.ints .i64 t6_1)]), (8, .pv (.int .i64 t8))] => some ((t4_0, t4_1, t6_0), (t6_1, t8))
  | _ => none
def st13 {ρ : Type} (n : Nat) (c : Int × (List (List Int)) × Int) (Ko : Exit → Fr → Option ρ) (s : (List Int) × Int) (nx : ((List Int) × Int) → Option ρ) : Option ρ :=
  Gm.top_TopSteiner_s13 n c.1 c.2.1 c.2.2 s.1 s.2 (fun a0 a1 => nx (a0, a1)) (Ko .ret [(2, .pv (.bool false))]) (fun (y0 : List Int) => Ko (.exit 2) [(6, .bx [.pv (.int .i64 c.2.2), .ow 3 (.ints .i64 y0)])])
noncomputable def tab (ρ : Type) (n : Nat) : Tab ρ := { live := [(0, [0]), (1, [0, 3]), (2, [0, 20]), (3, [2]), (4, [4, 5]), (5, [4, 27]), (6, [2]), (7, [4, 6]), (8, [4, 6, 7]), (9, [4, 6, 7, 31]), (10, [4, 6, 7]), (11, [4, 6, 7]), (12, [4, 6, 8]), (13, [4, 6, 8, 44]), (14, [4, 6, 8]), (15, [4, 6, 8, 9]), (16, [4, 6, 8, 9, 10]), (17, [4, 6, 8, 9, 10, 53]), (18, [4, 6, 8, 9, 10]), (19, [4, 6, 8, 9, 10, 11, 12]), (20, [4, 6, 8, 9, 10, 11, 72]), (21, [2]), (22, [4, 6, 8, 9, 10]), (23, [5, 6]), (24, [5, 6, 13, 14]), (25, [5, 6, 13, 14, 15, 16]), (26, [6, 125]), (27, [2]), (28, [5, 17]), (29, [2])], xl := [(0, [4, 6]), (1, [4, 6, 7]), (2, [6]), (3, [4, 6, 8]), (4, [4, 6, 8]), (5, [4, 6, 8, 9, 10])], rl := [2], fz := [], jp := [], lp := [(9, fun A Ko => bnd (d9 A) fun p => iterM (st9 n p.1 Ko) n p.2), (17, fun A Ko => bnd (d17 A) fun p => iterM (st17 n p.1 Ko) n p.2), (13, fun A Ko => bnd (d13 A) fun p => iterM (st13 n p.1 Ko) n p.2)] }
noncomputable def b9 : Code := (cL (cB (c2 (c1 (c2 (c2 (c2 (c2 (c2 (c2 body))))))))))
theorem d9_ok (A : Fr) (c : Int × (List (List Int)) × Int) (s : (List Int) × Int) (h : d9 A = some (c, s)) : A = F9 c s := by
  unfold d9 at h
  split at h
  · cases h; rfl
  · cases h
theorem step9 (ρ : Type) (n : Nat) (c : Int × (List (List Int)) × Int) (Ko : Exit → Fr → Option ρ) (s : (List Int) × Int) (nx : (Int × (List (List Int)) × Int) → ((List Int) × Int) → Option ρ) :
    AEO (env n) (answers ρ (used n) (used n)) (tab ρ n) b9 (F9 c s) (thenO (fun A => bnd (d9 (restr (keepOf (env n) b9) A)) fun p => nx p.1 p.2) Ko) = st9 n c Ko s (nx c) := by kernel_rfl
theorem lp9_ok {ρ : Type} (n : Nat) (hl : EntsOK Tryd.prog gl (used n)) : ∀ (A : Fr) (Ko : Exit → Fr → Option ρ) (r : ρ) (K : Exit → Fr → Prop), (bnd (d9 (restr (keepOf (env n) b9) A)) fun p => iterM (st9 n p.1 Ko) n p.2) = some r → (∀ e A, Ko e A = some r → K e A) → Gx.Sem Tryd.prog (env n) (.loop b9) A K :=
  fun A Ko r K h hk => loop_cod (P := Tryd.prog) (E := env n) (T := tab ρ n) (fun _ _ _ h => answers_ok h) F9 d9 (st9 n) d9_ok (show Cov _ (env n) (tab ρ n) b9 from ⟨⟨trivial, ⟨trivial, trivial⟩⟩, ⟨trivial, trivial⟩⟩) (fun c Ko s nx => step9 ρ n c Ko s nx) n A Ko r K h hk
noncomputable def b17 : Code := (cL (cB (c2 (c2 (cB (c1 (c2 (cL (cB (c2 (c1 (c2 (c2 (c2 (c2 (c2 (c2 (c2 body))))))))))))))))))
theorem d17_ok (A : Fr) (c : Int × (List (List Int)) × Int × Int × (List Int)) (s : (List Int) × Int) (h : d17 A = some (c, s)) : A = F17 c s := by
  unfold d17 at h
  split at h
  · cases h; rfl
  · cases h
theorem step17 (ρ : Type) (n : Nat) (c : Int × (List (List Int)) × Int × Int × (List Int)) (Ko : Exit → Fr → Option ρ) (s : (List Int) × Int) (nx : (Int × (List (List Int)) × Int × Int × (List Int)) → ((List Int) × Int) → Option ρ) :
    AEO (env n) (answers ρ (used n) (used n)) (tab ρ n) b17 (F17 c s) (thenO (fun A => bnd (d17 (restr (keepOf (env n) b17) A)) fun p => nx p.1 p.2) Ko) = st17 n c Ko s (nx c) := by kernel_rfl
theorem lp17_ok {ρ : Type} (n : Nat) (hl : EntsOK Tryd.prog gl (used n)) : ∀ (A : Fr) (Ko : Exit → Fr → Option ρ) (r : ρ) (K : Exit → Fr → Prop), (bnd (d17 (restr (keepOf (env n) b17) A)) fun p => iterM (st17 n p.1 Ko) n p.2) = some r → (∀ e A, Ko e A = some r → K e A) → Gx.Sem Tryd.prog (env n) (.loop b17) A K :=
  fun A Ko r K h hk => loop_cod (P := Tryd.prog) (E := env n) (T := tab ρ n) (fun _ _ _ h => answers_ok h) F17 d17 (st17 n) d17_ok (show Cov _ (env n) (tab ρ n) b17 from ⟨⟨trivial, ⟨trivial, trivial⟩⟩, ⟨⟨trivial, ⟨⟨trivial, ⟨⟨trivial, trivial⟩, trivial⟩⟩, trivial⟩⟩, trivial⟩⟩) (fun c Ko s nx => step17 ρ n c Ko s nx) n A Ko r K h hk
noncomputable def b13 : Code := (cL (cB (c2 (c1 (c2 (c2 (c2 (c2 (c2 (c2 (c2 body)))))))))))
theorem d13_ok (A : Fr) (c : Int × (List (List Int)) × Int) (s : (List Int) × Int) (h : d13 A = some (c, s)) : A = F13 c s := by
  unfold d13 at h
  split at h
  · cases h; rfl
  · cases h
theorem step13 (ρ : Type) (n : Nat) (c : Int × (List (List Int)) × Int) (Ko : Exit → Fr → Option ρ) (s : (List Int) × Int) (nx : (Int × (List (List Int)) × Int) → ((List Int) × Int) → Option ρ) :
    AEO (env n) (answers ρ (used n) (used n)) (tab ρ n) b13 (F13 c s) (thenO (fun A => bnd (d13 (restr (keepOf (env n) b13) A)) fun p => nx p.1 p.2) Ko) = st13 n c Ko s (nx c) := by kernel_rfl
theorem lp13_ok {ρ : Type} (n : Nat) (hl : EntsOK Tryd.prog gl (used n)) : ∀ (A : Fr) (Ko : Exit → Fr → Option ρ) (r : ρ) (K : Exit → Fr → Prop), (bnd (d13 (restr (keepOf (env n) b13) A)) fun p => iterM (st13 n p.1 Ko) n p.2) = some r → (∀ e A, Ko e A = some r → K e A) → Gx.Sem Tryd.prog (env n) (.loop b13) A K :=
  fun A Ko r K h hk => loop_cod (P := Tryd.prog) (E := env n) (T := tab ρ n) (fun _ _ _ h => answers_ok h) F13 d13 (st13 n) d13_ok (show Cov _ (env n) (tab ρ n) b13 from ⟨⟨trivial, ⟨trivial, trivial⟩⟩, ⟨⟨trivial, ⟨trivial, lp17_ok n hl⟩⟩, trivial⟩⟩) (fun c Ko s nx => step13 ρ n c Ko s nx) n A Ko r K h hk
def enc (a : List (List Int)) : List AV := [.ls (.rows a)]
def dec : List AV → Option (List (List Int))
  | [.ls (.rows toArray0)] => some toArray0
  | _ => none
def emb (b : Bool) : AV × List AV := (.pv (.bool b), [])
def dr : AV → List AV → Option (Bool)
  | .pv (.bool r0), [] => some r0
  | _, _ => none
theorem dec_ok (vs : List AV) (a : List (List Int)) (h : dec vs = some a) : vs = enc a := by
  unfold dec at h
  split at h
  · cases h; rfl
  · cases h
theorem dr_ok (v : AV) (o : List AV) (b : Bool) (h : dr v o = some b) : emb b = (v, o) := by
  unfold dr at h
  split at h
  · cases h; rfl
  · cases h
noncomputable def ent (n : Nat) : Ent := { f := 5, ms := [.lend], α := List (List Int), β := Bool, dec := dec, enc := enc, emb := emb, m := fun a => Gm.top_TopSteiner n a, hdec := dec_ok }
theorem run (n : Nat) (a : List (List Int)) : AEO (env n) (answers (Bool) (used n) (used n)) (tab (Bool) n) body (frameOf (enc a) 0) (bodyO (env n) Tryd.f5.results.toList (enc a) dr) = (ent n).m a := by kernel_rfl
theorem ok (n : Nat) (hl : EntsOK Tryd.prog gl (used n)) : EntOK Tryd.prog gl (ent n) :=
  fnO_sound (P := Tryd.prog) (e := ent n) (fn := Tryd.f5) (body := body) (l := used n) (te := te) (gl := gl) (n := ⟨2, 137⟩) (cut := [29]) (keep := keep) (T := tab (Bool) n) (dr := dr) Tryd.func5 (by kernel_rfl) (by kernel_rfl) te_ok (by kernel_rfl) (by kernel_rfl) hl (show Cov _ (env n) (tab (Bool) n) body from ⟨trivial, ⟨trivial, ⟨⟨trivial, ⟨⟨trivial, trivial⟩, trivial⟩⟩, ⟨trivial, ⟨⟨trivial, ⟨⟨trivial, trivial⟩, trivial⟩⟩, ⟨trivial, ⟨⟨trivial, lp9_ok n hl⟩, ⟨⟨trivial, lp13_ok n hl⟩, ⟨trivial, ⟨trivial, ⟨trivial, ⟨⟨trivial, ⟨⟨trivial, trivial⟩, trivial⟩⟩, ⟨trivial, ⟨trivial, trivial⟩⟩⟩⟩⟩⟩⟩⟩⟩⟩⟩⟩⟩⟩) dr_ok (fun a => ⟨rfl, rfl⟩) (run n)
theorem all_ok (n : Nat) : EntOK Tryd.prog gl (ent n) := ok n ⟨W_top_one.all_ok n, W_triple_Grow.all_ok n, W_perm_Unrank.all_ok n, W_latin_Check.all_ok n, W_quasi_Commutes.all_ok n, W_quasi_Idempotent.all_ok n, W_quasi_Parts.all_ok n, trivial⟩
end W_top_TopSteiner

end Go.Gw
