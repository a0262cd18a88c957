/-
  The functions keep the contracts that their models give; printed by program (gen.py).
  Conditions: none.
-/
import Derived.Test.YtjneiglpfdkehaaG3
import Derived.Test.YtjneiglpfdkehaaProg
import Derived.KernelRfl
import Derived.Test.YtjneiglpfdkehaaGm
import Derived.Test.YtjneiglpfdkehaaSh
import Derived.Test.YtjneiglpfdkehaaLS
import Derived.Test.YtjneiglpfdkehaaG5
namespace Go.Gw
open Go Go.Gx Go.Proofs
set_option maxRecDepth 100000
def te : TE := [(1, .func),
  (2, .int .i64),
  (3, .int .i64),
  (4, .bool),
  (5, .int .u8),
  (6, .int .u8),
  (7, .strct [(0, 2, 1), (1, 3, 1), (2, 4, 1), (3, 6, 1)] 4 [.pv (.int .i64 0), .pv (.int .i64 0), .pv (.bool false), .pv (.int .u8 0)]),
  (8, .strct [(0, 2, 1), (1, 3, 1), (2, 4, 1), (3, 6, 1)] 4 [.pv (.int .i64 0), .pv (.int .i64 0), .pv (.bool false), .pv (.int .u8 0)]),
  (12, .int .u64),
  (15, .ptr),
  (16, .ptr),
  (17, .ptr),
  (21, .int .i32),
  (22, .slice 41 (.rows [])),
  (23, .strct [(0, 3, 1), (1, 22, 1)] 2 [.pv (.int .i64 0), .nl 41 (.rows [])]),
  (24, .strct [(0, 3, 1), (1, 22, 1)] 2 [.pv (.int .i64 0), .nl 41 (.rows [])]),
  (25, .int .i64),
  (26, .func),
  (28, .func),
  (29, .func),
  (30, .func),
  (31, .func),
  (33, .func),
  (34, .func),
  (35, .func),
  (36, .func),
  (37, .func),
  (39, .func),
  (40, .func),
  (41, .slice 3 (.ints .i64 [])),
  (43, .func),
  (44, .func),
  (45, .func),
  (46, .arr 40 3 1 (.ints .i64 (List.replicate 40 0))),
  (47, .arr 40 46 40 (.ints .i64 (List.replicate 1600 0))),
  (48, .arr 40 46 40 (.ints .i64 (List.replicate 1600 0))),
  (50, .func),
  (52, .func),
  (53, .func),
  (54, .func),
  (55, .ptr),
  (56, .strct [(0, 22, 1)] 1 [.nl 41 (.rows [])]),
  (57, .strct [(0, 22, 1)] 1 [.nl 41 (.rows [])]),
  (58, .strct [(0, 57, 1), (1, 3, 1)] 2 [.nl 41 (.rows []), .pv (.int .i64 0)]),
  (59, .strct [(0, 57, 1), (1, 3, 1)] 2 [.nl 41 (.rows []), .pv (.int .i64 0)]),
  (60, .func),
  (61, .func),
  (62, .func),
  (64, .func),
  (65, .func),
  (66, .ptr),
  (67, .func),
  (68, .func),
  (70, .func),
  (71, .func),
  (72, .func),
  (73, .func),
  (74, .func),
  (75, .slice 80 (.ints .u64 [])),
  (76, .func),
  (77, .func),
  (78, .func),
  (79, .int .u64),
  (80, .int .u64),
  (81, .ptr),
  (86, .func),
  (87, .strct [(0, 3, 1), (1, 80, 1)] 2 [.pv (.int .i64 0), .pv (.int .u64 0)]),
  (88, .strct [(0, 3, 1), (1, 80, 1)] 2 [.pv (.int .i64 0), .pv (.int .u64 0)]),
  (89, .func),
  (90, .func),
  (91, .func),
  (92, .func),
  (93, .ptr),
  (94, .func),
  (95, .func),
  (96, .func),
  (97, .func),
  (98, .func),
  (99, .func),
  (101, .int .u64),
  (102, .func),
  (103, .func),
  (104, .func),
  (105, .func),
  (106, .func),
  (107, .int .i64),
  (109, .func),
  (110, .func),
  (111, .func),
  (112, .func),
  (113, .func),
  (114, .func),
  (115, .int .u32),
  (116, .func),
  (117, .func),
  (118, .func),
  (119, .func),
  (120, .func),
  (121, .int .u64),
  (122, .func),
  (123, .func),
  (124, .func),
  (125, .ptr),
  (126, .func),
  (127, .func),
  (128, .func),
  (129, .ptr),
  (130, .func),
  (131, .func),
  (132, .func),
  (138, .func),
  (139, .int .u8),
  (140, .int .u8),
  (141, .func),
  (142, .ptr),
  (143, .int .i32),
  (144, .int .i32)]
def gl : List (Nat × Sq) := []
theorem te_ok : teOK Try.prog te = true := by kernel_rfl
def c1 : Code → Code
  | .seq a _ => a
  | c => c
def c2 : Code → Code
  | .seq _ a => a
  | c => c
def cT : Code → Code
  | .cond _ a _ => a
  | c => c
def cF : Code → Code
  | .cond _ _ a => a
  | c => c
def cB : Code → Code
  | .block _ a => a
  | c => c
def cL : Code → Code
  | .loop a => a
  | c => c
end Go.Gw

/-
  The functions keep the contracts that their models give; printed by program (gen.py).
  Conditions: none.
-/
namespace Go.Gw
open Go Go.Gx Go.Proofs
set_option maxRecDepth 100000
namespace W_ref2_Lies
noncomputable def body : Code := Try.f21.body.getD .skip
def keep : List (Nat × List Nat) := [(2, [0, 1, 5])]
noncomputable def used (_n : Nat) : List Ent := []
noncomputable def env (n : Nat) : Env := envOf te gl (used n) ⟨4, 18⟩ [] keep
def F2 (c : (List Int) × Int) (s : Int) : Fr := [(0, .ls (.ints .i64 c.1)), (1, .pv (.int .i64 c.2)), (5, .pv (.int .i64 s))]
def d2 : Fr → Option (((List Int) × Int) × (Int))
  | [(0, .ls (.ints .i64 l0)), (1, .pv (.int .i64 x1)), (5, .pv (.int .i64 i5))] => some ((l0, x1), i5)
  | _ => none
def st2 {ρ : Type} (n : Nat) (c : (List Int) × Int) (Ko : Exit → Fr → Option ρ) (s : Int) (nx : Int → Option ρ) : Option ρ :=
  Gm.ref2_Lies_s2 n c.1 c.2 s nx (Ko .ret [(4, .pv (.bool true))]) (Ko (.exit 0) [])
noncomputable def tab (ρ : Type) (n : Nat) : Tab ρ := { live := [(0, [0, 1]), (1, [0, 1, 5]), (2, [0, 1, 5, 9]), (3, [0, 1, 5]), (4, [0, 1, 5, 17]), (5, [4]), (6, [4])], xl := [(0, []), (1, [0, 1, 5])], rl := [4], fz := [], jp := [], lp := [(2, fun A Ko => bnd (d2 A) fun p => iterM (st2 n p.1 Ko) n p.2)] }
noncomputable def b2 : Code := (cL (cB (c2 (c1 (c2 body)))))
theorem d2_ok (A : Fr) (c : (List Int) × Int) (s : Int) (h : d2 A = some (c, s)) : A = F2 c s := by
  unfold d2 at h
  split at h
  · cases h; rfl
  · cases h
theorem step2 (ρ : Type) (n : Nat) (c : (List Int) × Int) (Ko : Exit → Fr → Option ρ) (s : Int) (nx : ((List Int) × Int) → (Int) → Option ρ) :
    AEO (env n) (answers ρ (used n) (used n)) (tab ρ n) b2 (F2 c s) (thenO (fun A => bnd (d2 (restr (keepOf (env n) b2) A)) fun p => nx p.1 p.2) Ko) = st2 n c Ko s (nx c) := by kernel_rfl
theorem lp2_ok {ρ : Type} (n : Nat) (hl : EntsOK Try.prog gl (used n)) : ∀ (A : Fr) (Ko : Exit → Fr → Option ρ) (r : ρ) (K : Exit → Fr → Prop), (bnd (d2 (restr (keepOf (env n) b2) A)) fun p => iterM (st2 n p.1 Ko) n p.2) = some r → (∀ e A, Ko e A = some r → K e A) → Gx.Sem Try.prog (env n) (.loop b2) A K :=
  fun A Ko r K h hk => loop_cod (P := Try.prog) (E := env n) (T := tab ρ n) (fun _ _ _ h => answers_ok h) F2 d2 (st2 n) d2_ok (show Cov _ (env n) (tab ρ n) b2 from ⟨⟨trivial, ⟨trivial, trivial⟩⟩, ⟨⟨trivial, ⟨⟨trivial, trivial⟩, trivial⟩⟩, trivial⟩⟩) (fun c Ko s nx => step2 ρ n c Ko s nx) n A Ko r K h hk
def enc (a : (List Int) × Int) : List AV := [.ls (.ints .i64 a.1), .pv (.int .i64 a.2)]
def dec : List AV → Option ((List Int) × Int)
  | [.ls (.ints .i64 l0), .pv (.int .i64 x1)] => some (l0, x1)
  | _ => none
def emb (b : Bool) : AV × List AV := (.pv (.bool b), [])
def dr : AV → List AV → Option (Bool)
  | .pv (.bool r0), [] => some r0
  | _, _ => none
theorem dec_ok (vs : List AV) (a : (List Int) × Int) (h : dec vs = some a) : vs = enc a := by
  unfold dec at h
  split at h
  · cases h; rfl
  · cases h
theorem dr_ok (v : AV) (o : List AV) (b : Bool) (h : dr v o = some b) : emb b = (v, o) := by
  unfold dr at h
  split at h
  · cases h; rfl
  · cases h
noncomputable def ent (n : Nat) : Ent := { f := 21, ms := [.lend, .lend], α := (List Int) × Int, β := Bool, dec := dec, enc := enc, emb := emb, m := fun a => Gm.ref2_Lies n a.1 a.2, hdec := dec_ok }
theorem run (n : Nat) (a : (List Int) × Int) : AEO (env n) (answers (Bool) (used n) (used n)) (tab (Bool) n) body (frameOf (enc a) 0) (bodyO (env n) Try.f21.results.toList (enc a) dr) = (ent n).m a := by kernel_rfl
theorem ok (n : Nat) (hl : EntsOK Try.prog gl (used n)) : EntOK Try.prog gl (ent n) :=
  fnO_sound (P := Try.prog) (e := ent n) (fn := Try.f21) (body := body) (l := used n) (te := te) (gl := gl) (n := ⟨4, 18⟩) (cut := []) (keep := keep) (T := tab (Bool) n) (dr := dr) Try.func21 (by kernel_rfl) (by kernel_rfl) te_ok (by kernel_rfl) (by kernel_rfl) hl (show Cov _ (env n) (tab (Bool) n) body from ⟨trivial, ⟨⟨trivial, lp2_ok n hl⟩, ⟨trivial, trivial⟩⟩⟩) dr_ok (fun a => ⟨rfl, rfl⟩) (run n)
theorem all_ok (n : Nat) : EntOK Try.prog gl (ent n) := ok n trivial
end W_ref2_Lies
namespace W_ref2_Together
noncomputable def body : Code := Try.f25.body.getD .skip
def keep : List (Nat × List Nat) := [(3, [0, 1, 5, 6])]
noncomputable def used (n : Nat) : List Ent := [W_ref2_Lies.ent n]
noncomputable def env (n : Nat) : Env := envOf te gl (used n) ⟨4, 24⟩ [] keep
def F3 (c : (List Int) × (List Int)) (s : Int × Int) : Fr := [(0, .ls (.ints .i64 c.1)), (1, .ls (.ints .i64 c.2)), (5, .pv (.int .i64 s.1)), (6, .pv (.int .i64 s.2))]
def d3 : Fr → Option (((List Int) × (List Int)) × (Int × Int))
  | [(0, .ls (.ints .i64 a0)), (1, .ls (.ints .i64 b1)), (5, .pv (.int .i64 n_5)), (6, .pv (.int .i64 i6))] => some ((a0, b1), (n_5, i6))
  | _ => none
def st3 {ρ : Type} (n : Nat) (c : (List Int) × (List Int)) (Ko : Exit → Fr → Option ρ) (s : Int × Int) (nx : (Int × Int) → Option ρ) : Option ρ :=
  Gm.ref2_Together_s3 n c.1 c.2 s.1 s.2 (fun a0 a1 => nx (a0, a1)) (fun (y0 : Int) => Ko (.exit 0) [(5, .pv (.int .i64 y0))])
noncomputable def tab (ρ : Type) (n : Nat) : Tab ρ := { live := [(0, [0, 1]), (1, [0, 1, 5]), (2, [0, 1, 5, 6]), (3, [0, 1, 5, 6, 11]), (4, [0, 1, 5, 6]), (5, [0, 1, 5, 6, 7]), (6, [0, 1, 5, 6, 20]), (7, [0, 1, 5, 6]), (8, [4])], xl := [(0, [5]), (1, [0, 1, 5, 6])], rl := [4], fz := [], jp := [], lp := [(3, fun A Ko => bnd (d3 A) fun p => iterM (st3 n p.1 Ko) n p.2)] }
noncomputable def b3 : Code := (cL (cB (c2 (c1 (c2 (c2 body))))))
theorem d3_ok (A : Fr) (c : (List Int) × (List Int)) (s : Int × Int) (h : d3 A = some (c, s)) : A = F3 c s := by
  unfold d3 at h
  split at h
  · cases h; rfl
  · cases h
theorem step3 (ρ : Type) (n : Nat) (c : (List Int) × (List Int)) (Ko : Exit → Fr → Option ρ) (s : Int × Int) (nx : ((List Int) × (List Int)) → (Int × Int) → Option ρ) :
    AEO (env n) (answers ρ (used n) (used n)) (tab ρ n) b3 (F3 c s) (thenO (fun A => bnd (d3 (restr (keepOf (env n) b3) A)) fun p => nx p.1 p.2) Ko) = st3 n c Ko s (nx c) := by kernel_rfl
theorem lp3_ok {ρ : Type} (n : Nat) (hl : EntsOK Try.prog gl (used n)) : ∀ (A : Fr) (Ko : Exit → Fr → Option ρ) (r : ρ) (K : Exit → Fr → Prop), (bnd (d3 (restr (keepOf (env n) b3) A)) fun p => iterM (st3 n p.1 Ko) n p.2) = some r → (∀ e A, Ko e A = some r → K e A) → Gx.Sem Try.prog (env n) (.loop b3) A K :=
  fun A Ko r K h hk => loop_cod (P := Try.prog) (E := env n) (T := tab ρ n) (fun _ _ _ h => answers_ok h) F3 d3 (st3 n) d3_ok (show Cov _ (env n) (tab ρ n) b3 from ⟨⟨trivial, ⟨trivial, trivial⟩⟩, ⟨⟨trivial, ⟨trivial, ⟨trivial, trivial⟩⟩⟩, trivial⟩⟩) (fun c Ko s nx => step3 ρ n c Ko s nx) n A Ko r K h hk
def enc (a : (List Int) × (List Int)) : List AV := [.ls (.ints .i64 a.1), .ls (.ints .i64 a.2)]
def dec : List AV → Option ((List Int) × (List Int))
  | [.ls (.ints .i64 a0), .ls (.ints .i64 b1)] => some (a0, b1)
  | _ => none
def emb (b : Int) : AV × List AV := (.pv (.int .i64 b), [])
def dr : AV → List AV → Option (Int)
  | .pv (.int .i64 r0), [] => some r0
  | _, _ => none
theorem dec_ok (vs : List AV) (a : (List Int) × (List Int)) (h : dec vs = some a) : vs = enc a := by
  unfold dec at h
  split at h
  · cases h; rfl
  · cases h
theorem dr_ok (v : AV) (o : List AV) (b : Int) (h : dr v o = some b) : emb b = (v, o) := by
  unfold dr at h
  split at h
  · cases h; rfl
  · cases h
noncomputable def ent (n : Nat) : Ent := { f := 25, ms := [.lend, .lend], α := (List Int) × (List Int), β := Int, dec := dec, enc := enc, emb := emb, m := fun a => Gm.ref2_Together n a.1 a.2, hdec := dec_ok }
theorem run (n : Nat) (a : (List Int) × (List Int)) : AEO (env n) (answers (Int) (used n) (used n)) (tab (Int) n) body (frameOf (enc a) 0) (bodyO (env n) Try.f25.results.toList (enc a) dr) = (ent n).m a := by kernel_rfl
theorem ok (n : Nat) (hl : EntsOK Try.prog gl (used n)) : EntOK Try.prog gl (ent n) :=
  fnO_sound (P := Try.prog) (e := ent n) (fn := Try.f25) (body := body) (l := used n) (te := te) (gl := gl) (n := ⟨4, 24⟩) (cut := []) (keep := keep) (T := tab (Int) n) (dr := dr) Try.func25 (by kernel_rfl) (by kernel_rfl) te_ok (by kernel_rfl) (by kernel_rfl) hl (show Cov _ (env n) (tab (Int) n) body from ⟨trivial, ⟨trivial, ⟨⟨trivial, lp3_ok n hl⟩, ⟨trivial, trivial⟩⟩⟩⟩) dr_ok (fun a => ⟨rfl, rfl⟩) (run n)
theorem all_ok (n : Nat) : EntOK Try.prog gl (ent n) := ok n ⟨W_ref2_Lies.all_ok n, trivial⟩
end W_ref2_Together
namespace W_ref2_GrowFault
noncomputable def body : Code := Try.f10.body.getD .skip
def keep : List (Nat × List Nat) := [(6, [0, 1, 5]), (10, [0, 1, 5, 6, 7]), (17, [1, 8]), (20, [1, 8, 9])]
noncomputable def used (n : Nat) : List Ent := [W_ref2_Together.ent n]
noncomputable def env (n : Nat) : Env := envOf te gl (used n) ⟨4, 92⟩ [] keep
def F10 (c : Int × (List (List Int)) × Int × (List Int)) (s : Int) : Fr := [(0, .pv (.int .i64 c.1)), (1, .ls (.rows c.2.1)), (5, .pv (.int .i64 c.2.2.1)), (6, .sl (.ints .i64 c.2.2.2)), (7, .pv (.int .i64 s))]
def d10 : Fr → Option ((Int × (List (List Int)) × Int × (List Int)) × (Int))
  | [(0, .pv (.int .i64 toArray0)), (1, .ls (.rows t1)), (5, .pv (.int .i64 t5)), (6, .sl (.ints .i64 t6)), (7, .pv (.int .i64 t7))] => some ((toArray0, t1, t5, t6), t7)
  | _ => none
def st10 {ρ : Type} (n : Nat) (c : Int × (List (List Int)) × Int × (List Int)) (Ko : Exit → Fr → Option ρ) (s : Int) (nx : Int → Option ρ) : Option ρ :=
  Gm.ref2_GrowFault_s10 n c.1 c.2.1 c.2.2.1 c.2.2.2 s nx (Ko .ret [(4, .pv (.int .i64 1))]) (Ko (.exit 2) [(0, .pv (.int .i64 c.1)), (1, .ls (.rows c.2.1)), (5, .pv (.int .i64 c.2.2.1)), (6, .sl (.ints .i64 c.2.2.2))])
def F6 (c : Int × (List (List Int))) (s : Int) : Fr := [(0, .pv (.int .i64 c.1)), (1, .ls (.rows c.2)), (5, .pv (.int .i64 s))]
def d6 : Fr → Option ((Int × (List (List Int))) × (Int))
  | [(0, .pv (.int .i64 toArray0)), (1, .ls (.rows t1)), (5, .pv (.int .i64 t5))] => some ((toArray0, t1), t5)
  | _ => none
def st6 {ρ : Type} (n : Nat) (c : Int × (List (List Int))) (Ko : Exit → Fr → Option ρ) (s : Int) (nx : Int → Option ρ) : Option ρ :=
  Gm.ref2_GrowFault_s6 n c.1 c.2 s nx (Ko .ret [(4, .pv (.int .i64 1))]) (Ko .ret [(4, .pv (.int .i64 2))]) (Ko (.exit 0) [(1, .ls (.rows c.2))])
def F20 (c : (List (List Int)) × Int) (s : Int) : Fr := [(1, .ls (.rows c.1)), (8, .pv (.int .i64 c.2)), (9, .pv (.int .i64 s))]
def d20 : Fr → Option (((List (List Int)) × Int) × (Int))
  | [(1, .ls (.rows t1)), (8, .pv (.int .i64 t8)), (9, .pv (.int .i64 t9))] => some ((t1, t8), t9)
  | _ => none
def st20 {ρ : Type} (n : Nat) (c : (List (List Int)) × Int) (Ko : Exit → Fr → Option ρ) (s : Int) (nx : Int → Option ρ) : Option ρ :=
  Gm.ref2_GrowFault_s20 n c.1 c.2 s nx (Ko .ret [(4, .pv (.int .i64 6))]) (Ko (.exit 6) [(1, .ls (.rows c.1)), (8, .pv (.int .i64 c.2))])
def F17 (c : List (List Int)) (s : Int) : Fr := [(1, .ls (.rows c)), (8, .pv (.int .i64 s))]
def d17 : Fr → Option ((List (List Int)) × (Int))
  | [(1, .ls (.rows t1)), (8, .pv (.int .i64 t8))] => some (t1, t8)
  | _ => none
def st17 {ρ : Type} (n : Nat) (c : List (List Int)) (Ko : Exit → Fr → Option ρ) (s : Int) (nx : Int → Option ρ) : Option ρ :=
  Gm.ref2_GrowFault_s17 n c s nx (Ko .ret [(4, .pv (.int .i64 6))]) (Ko (.exit 4) [])
noncomputable def tab (ρ : Type) (n : Nat) : Tab ρ := { live := [(0, [0, 1]), (1, [0, 1, 16]), (2, [4]), (3, [0, 1, 19]), (4, [4]), (5, [0, 1, 5]), (6, [0, 1, 5, 23]), (7, [0, 1, 5]), (8, [0, 1, 5, 6]), (9, [0, 1, 5, 6, 7]), (10, [0, 1, 5, 6, 7, 33]), (11, [0, 1, 5, 6, 7]), (12, [0, 1, 5, 6, 7, 48]), (13, [4]), (14, [0, 1, 5, 69]), (15, [4]), (16, [1, 8]), (17, [1, 8, 73]), (18, [1, 8]), (19, [1, 8, 9]), (20, [1, 8, 9, 78]), (21, [1, 8, 9]), (22, [1, 8, 9, 10]), (23, [1, 8, 9, 91]), (24, [4]), (25, [4])], xl := [(0, [1]), (1, [0, 1, 5]), (2, [0, 1, 5, 6]), (3, [0, 1, 5, 6, 7]), (4, []), (5, [1, 8]), (6, [1, 8]), (7, [1, 8, 9])], rl := [4], fz := [], jp := [], lp := [(10, fun A Ko => bnd (d10 A) fun p => iterM (st10 n p.1 Ko) n p.2), (6, fun A Ko => bnd (d6 A) fun p => iterM (st6 n p.1 Ko) n p.2), (20, fun A Ko => bnd (d20 A) fun p => iterM (st20 n p.1 Ko) n p.2), (17, fun A Ko => bnd (d17 A) fun p => iterM (st17 n p.1 Ko) n p.2)] }
noncomputable def b10 : Code := (cL (cB (c2 (c1 (c2 (cB (c1 (c2 (cL (cB (c2 (c1 (c2 (c2 (c2 body)))))))))))))))
theorem d10_ok (A : Fr) (c : Int × (List (List Int)) × Int × (List Int)) (s : Int) (h : d10 A = some (c, s)) : A = F10 c s := by
  unfold d10 at h
  split at h
  · cases h; rfl
  · cases h
theorem step10 (ρ : Type) (n : Nat) (c : Int × (List (List Int)) × Int × (List Int)) (Ko : Exit → Fr → Option ρ) (s : Int) (nx : (Int × (List (List Int)) × Int × (List Int)) → (Int) → Option ρ) :
    AEO (env n) (answers ρ (used n) (used n)) (tab ρ n) b10 (F10 c s) (thenO (fun A => bnd (d10 (restr (keepOf (env n) b10) A)) fun p => nx p.1 p.2) Ko) = st10 n c Ko s (nx c) := by kernel_rfl
theorem lp10_ok {ρ : Type} (n : Nat) (hl : EntsOK Try.prog gl (used n)) : ∀ (A : Fr) (Ko : Exit → Fr → Option ρ) (r : ρ) (K : Exit → Fr → Prop), (bnd (d10 (restr (keepOf (env n) b10) A)) fun p => iterM (st10 n p.1 Ko) n p.2) = some r → (∀ e A, Ko e A = some r → K e A) → Gx.Sem Try.prog (env n) (.loop b10) A K :=
  fun A Ko r K h hk => loop_cod (P := Try.prog) (E := env n) (T := tab ρ n) (fun _ _ _ h => answers_ok h) F10 d10 (st10 n) d10_ok (show Cov _ (env n) (tab ρ n) b10 from ⟨⟨trivial, ⟨trivial, trivial⟩⟩, ⟨⟨trivial, ⟨⟨trivial, trivial⟩, trivial⟩⟩, trivial⟩⟩) (fun c Ko s nx => step10 ρ n c Ko s nx) n A Ko r K h hk
noncomputable def b6 : Code := (cL (cB (c2 (c1 (c2 (c2 (c2 body)))))))
theorem d6_ok (A : Fr) (c : Int × (List (List Int))) (s : Int) (h : d6 A = some (c, s)) : A = F6 c s := by
  unfold d6 at h
  split at h
  · cases h; rfl
  · cases h
theorem step6 (ρ : Type) (n : Nat) (c : Int × (List (List Int))) (Ko : Exit → Fr → Option ρ) (s : Int) (nx : (Int × (List (List Int))) → (Int) → Option ρ) :
    AEO (env n) (answers ρ (used n) (used n)) (tab ρ n) b6 (F6 c s) (thenO (fun A => bnd (d6 (restr (keepOf (env n) b6) A)) fun p => nx p.1 p.2) Ko) = st6 n c Ko s (nx c) := by kernel_rfl
theorem lp6_ok {ρ : Type} (n : Nat) (hl : EntsOK Try.prog gl (used n)) : ∀ (A : Fr) (Ko : Exit → Fr → Option ρ) (r : ρ) (K : Exit → Fr → Prop), (bnd (d6 (restr (keepOf (env n) b6) A)) fun p => iterM (st6 n p.1 Ko) n p.2) = some r → (∀ e A, Ko e A = some r → K e A) → Gx.Sem Try.prog (env n) (.loop b6) A K :=
  fun A Ko r K h hk => loop_cod (P := Try.prog) (E := env n) (T := tab ρ n) (fun _ _ _ h => answers_ok h) F6 d6 (st6 n) d6_ok (show Cov _ (env n) (tab ρ n) b6 from ⟨⟨trivial, ⟨trivial, trivial⟩⟩, ⟨⟨trivial, ⟨⟨trivial, lp10_ok n hl⟩, ⟨trivial, ⟨⟨trivial, trivial⟩, trivial⟩⟩⟩⟩, trivial⟩⟩) (fun c Ko s nx => step6 ρ n c Ko s nx) n A Ko r K h hk
noncomputable def b20 : Code := (cL (cB (c2 (cB (c1 (c2 (cL (cB (c2 (c1 (c2 (c2 (c2 (c2 body))))))))))))))
theorem d20_ok (A : Fr) (c : (List (List Int)) × Int) (s : Int) (h : d20 A = some (c, s)) : A = F20 c s := by
  unfold d20 at h
  split at h
  · cases h; rfl
  · cases h
theorem step20 (ρ : Type) (n : Nat) (c : (List (List Int)) × Int) (Ko : Exit → Fr → Option ρ) (s : Int) (nx : ((List (List Int)) × Int) → (Int) → Option ρ) :
    AEO (env n) (answers ρ (used n) (used n)) (tab ρ n) b20 (F20 c s) (thenO (fun A => bnd (d20 (restr (keepOf (env n) b20) A)) fun p => nx p.1 p.2) Ko) = st20 n c Ko s (nx c) := by kernel_rfl
theorem lp20_ok {ρ : Type} (n : Nat) (hl : EntsOK Try.prog gl (used n)) : ∀ (A : Fr) (Ko : Exit → Fr → Option ρ) (r : ρ) (K : Exit → Fr → Prop), (bnd (d20 (restr (keepOf (env n) b20) A)) fun p => iterM (st20 n p.1 Ko) n p.2) = some r → (∀ e A, Ko e A = some r → K e A) → Gx.Sem Try.prog (env n) (.loop b20) A K :=
  fun A Ko r K h hk => loop_cod (P := Try.prog) (E := env n) (T := tab ρ n) (fun _ _ _ h => answers_ok h) F20 d20 (st20 n) d20_ok (show Cov _ (env n) (tab ρ n) b20 from ⟨⟨trivial, ⟨trivial, trivial⟩⟩, ⟨⟨trivial, ⟨trivial, ⟨⟨trivial, trivial⟩, trivial⟩⟩⟩, trivial⟩⟩) (fun c Ko s nx => step20 ρ n c Ko s nx) n A Ko r K h hk
noncomputable def b17 : Code := (cL (cB (c2 (c1 (c2 (c2 (c2 (c2 body))))))))
theorem d17_ok (A : Fr) (c : List (List Int)) (s : Int) (h : d17 A = some (c, s)) : A = F17 c s := by
  unfold d17 at h
  split at h
  · cases h; rfl
  · cases h
theorem step17 (ρ : Type) (n : Nat) (c : List (List Int)) (Ko : Exit → Fr → Option ρ) (s : Int) (nx : (List (List Int)) → (Int) → Option ρ) :
    AEO (env n) (answers ρ (used n) (used n)) (tab ρ n) b17 (F17 c s) (thenO (fun A => bnd (d17 (restr (keepOf (env n) b17) A)) fun p => nx p.1 p.2) Ko) = st17 n c Ko s (nx c) := by kernel_rfl
theorem lp17_ok {ρ : Type} (n : Nat) (hl : EntsOK Try.prog gl (used n)) : ∀ (A : Fr) (Ko : Exit → Fr → Option ρ) (r : ρ) (K : Exit → Fr → Prop), (bnd (d17 (restr (keepOf (env n) b17) A)) fun p => iterM (st17 n p.1 Ko) n p.2) = some r → (∀ e A, Ko e A = some r → K e A) → Gx.Sem Try.prog (env n) (.loop b17) A K :=
  fun A Ko r K h hk => loop_cod (P := Try.prog) (E := env n) (T := tab ρ n) (fun _ _ _ h => answers_ok h) F17 d17 (st17 n) d17_ok (show Cov _ (env n) (tab ρ n) b17 from ⟨⟨trivial, ⟨trivial, trivial⟩⟩, ⟨⟨trivial, lp20_ok n hl⟩, trivial⟩⟩) (fun c Ko s nx => step17 ρ n c Ko s nx) n A Ko r K h hk
def enc (a : Int × (List (List Int))) : List AV := [.pv (.int .i64 a.1), .ls (.rows a.2)]
def dec : List AV → Option (Int × (List (List Int)))
  | [.pv (.int .i64 toArray0), .ls (.rows t1)] => some (toArray0, t1)
  | _ => none
def emb (b : Int) : AV × List AV := (.pv (.int .i64 b), [])
def dr : AV → List AV → Option (Int)
  | .pv (.int .i64 r0), [] => some r0
  | _, _ => none
theorem dec_ok (vs : List AV) (a : Int × (List (List Int))) (h : dec vs = some a) : vs = enc a := by
  unfold dec at h
  split at h
  · cases h; rfl
  · cases h
theorem dr_ok (v : AV) (o : List AV) (b : Int) (h : dr v o = some b) : emb b = (v, o) := by
  unfold dr at h
  split at h
  · cases h; rfl
  · cases h
noncomputable def ent (n : Nat) : Ent := { f := 10, ms := [.lend, .lend], α := Int × (List (List Int)), β := Int, dec := dec, enc := enc, emb := emb, m := fun a => Gm.ref2_GrowFault n a.1 a.2, hdec := dec_ok }
theorem run (n : Nat) (a : Int × (List (List Int))) : AEO (env n) (answers (Int) (used n) (used n)) (tab (Int) n) body (frameOf (enc a) 0) (bodyO (env n) Try.f10.results.toList (enc a) dr) = (ent n).m a := by kernel_rfl
theorem ok (n : Nat) (hl : EntsOK Try.prog gl (used n)) : EntOK Try.prog gl (ent n) :=
  fnO_sound (P := Try.prog) (e := ent n) (fn := Try.f10) (body := body) (l := used n) (te := te) (gl := gl) (n := ⟨4, 92⟩) (cut := []) (keep := keep) (T := tab (Int) n) (dr := dr) Try.func10 (by kernel_rfl) (by kernel_rfl) te_ok (by kernel_rfl) (by kernel_rfl) hl (show Cov _ (env n) (tab (Int) n) body from ⟨trivial, ⟨⟨trivial, ⟨⟨trivial, trivial⟩, trivial⟩⟩, ⟨⟨trivial, ⟨⟨trivial, trivial⟩, trivial⟩⟩, ⟨⟨trivial, lp6_ok n hl⟩, ⟨⟨trivial, lp17_ok n hl⟩, ⟨trivial, trivial⟩⟩⟩⟩⟩⟩) dr_ok (fun a => ⟨rfl, rfl⟩) (run n)
theorem all_ok (n : Nat) : EntOK Try.prog gl (ent n) := ok n ⟨W_ref2_Together.all_ok n, trivial⟩
end W_ref2_GrowFault
namespace W_triple_Grow_1
noncomputable def body : Code := Try.f28.body.getD .skip
def keep : List (Nat × List Nat) := []
noncomputable def used (_n : Nat) : List Ent := []
noncomputable def env (n : Nat) : Env := envOf te gl (used n) ⟨3, 11⟩ [] keep
noncomputable def tab (ρ : Type) (_n : Nat) : Tab ρ := { live := [(0, [0, 1]), (1, [3])], xl := [], rl := [3], fz := [], jp := [], lp := [] }
def enc (a : Int × Int) : List AV := [.pv (.int .i64 a.1), .lb [.pv (.int .i64 a.2)] 0]
def dec : List AV → Option (Int × Int)
  | [.pv (.int .i64 p0), .lb [.pv (.int .i64 t1)] 0] => some (p0, t1)
  | _ => none
def emb (b : Bool) : AV × List AV := (.pv (.bool b), [])
def dr : AV → List AV → Option (Bool)
  | .pv (.bool r0), [] => some r0
  | _, _ => none
theorem dec_ok (vs : List AV) (a : Int × Int) (h : dec vs = some a) : vs = enc a := by
  unfold dec at h
  split at h
  · cases h; rfl
  · cases h
theorem dr_ok (v : AV) (o : List AV) (b : Bool) (h : dr v o = some b) : emb b = (v, o) := by
  unfold dr at h
  split at h
  · cases h; rfl
  · cases h
noncomputable def ent (n : Nat) : Ent := { f := 28, ms := [.lend], α := Int × Int, β := Bool, dec := dec, enc := enc, emb := emb, m := fun a => Gm.triple_Grow_1 n a.1 a.2, hdec := dec_ok }
theorem run (n : Nat) (a : Int × Int) : AEO (env n) (answers (Bool) (used n) (used n)) (tab (Bool) n) body (frameOf (enc a) 0) (bodyO (env n) Try.f28.results.toList (enc a) dr) = (ent n).m a := by kernel_rfl
theorem ok (n : Nat) (hl : EntsOK Try.prog gl (used n)) : EntOK Try.prog gl (ent n) :=
  fnO_sound (P := Try.prog) (e := ent n) (fn := Try.f28) (body := body) (l := used n) (te := te) (gl := gl) (n := ⟨3, 11⟩) (cut := []) (keep := keep) (T := tab (Bool) n) (dr := dr) Try.func28 (by kernel_rfl) (by kernel_rfl) te_ok (by kernel_rfl) (by kernel_rfl) hl (show Cov _ (env n) (tab (Bool) n) body from ⟨trivial, ⟨trivial, trivial⟩⟩) dr_ok (fun a => ⟨rfl, rfl⟩) (run n)
theorem all_ok (n : Nat) : EntOK Try.prog gl (ent n) := ok n trivial
end W_triple_Grow_1
namespace W_slices_IndexFunc_intint__triple_Grow_1
noncomputable def body : Code := Try.f48.body.getD .skip
def keep : List (Nat × List Nat) := [(2, [0, 1, 7, 8])]
noncomputable def used (n : Nat) : List Ent := [W_triple_Grow_1.ent n]
noncomputable def env (n : Nat) : Env := envOf te gl (used n) ⟨4, 19⟩ [] keep
def F2 (c : (List Int) × Int × Int) (s : Int) : Fr := [(0, .ls (.ints .i64 c.1)), (1, .fn 28 [.lb [.pv (.int .i64 c.2.1)] 0]), (7, .pv (.int .i64 c.2.2)), (8, .pv (.int .i64 s))]
def d2 : Fr → Option (((List Int) × Int × Int) × (Int))
  | [(0, .ls (.ints .i64 s_0)), (1, .fn 28 [.lb [.pv (.int .i64 f1)] 0]), (7, .pv (.int .i64 t7)), (8, .pv (.int .i64 t8))] => some ((s_0, f1, t7), t8)
  | _ => none
def st2 {ρ : Type} (n : Nat) (c : (List Int) × Int × Int) (Ko : Exit → Fr → Option ρ) (s : Int) (nx : Int → Option ρ) : Option ρ :=
  Gm.slices_IndexFunc_intint__triple_Grow_1_s2 n c.1 c.2.1 c.2.2 s nx (fun (y0 : Int) => Ko .ret [(4, .pv (.int .i64 y0))]) (Ko (.exit 0) [])
noncomputable def tab (ρ : Type) (n : Nat) : Tab ρ := { live := [(0, [0, 1]), (1, [0, 1, 7, 8]), (2, [0, 1, 7, 8, 9]), (3, [0, 1, 5, 7, 8]), (4, [0, 1, 5, 7, 8, 16]), (5, [4]), (6, [0, 1, 7, 8]), (7, [4])], xl := [(0, []), (1, [0, 1, 7, 8])], rl := [4], fz := [], jp := [], lp := [(2, fun A Ko => bnd (d2 A) fun p => iterM (st2 n p.1 Ko) n p.2)] }
noncomputable def b2 : Code := (cL (cB (c2 (c1 (c2 body)))))
theorem d2_ok (A : Fr) (c : (List Int) × Int × Int) (s : Int) (h : d2 A = some (c, s)) : A = F2 c s := by
  unfold d2 at h
  split at h
  · cases h; rfl
  · cases h
theorem step2 (ρ : Type) (n : Nat) (c : (List Int) × Int × Int) (Ko : Exit → Fr → Option ρ) (s : Int) (nx : ((List Int) × Int × Int) → (Int) → Option ρ) :
    AEO (env n) (answers ρ (used n) (used n)) (tab ρ n) b2 (F2 c s) (thenO (fun A => bnd (d2 (restr (keepOf (env n) b2) A)) fun p => nx p.1 p.2) Ko) = st2 n c Ko s (nx c) := by kernel_rfl
theorem lp2_ok {ρ : Type} (n : Nat) (hl : EntsOK Try.prog gl (used n)) : ∀ (A : Fr) (Ko : Exit → Fr → Option ρ) (r : ρ) (K : Exit → Fr → Prop), (bnd (d2 (restr (keepOf (env n) b2) A)) fun p => iterM (st2 n p.1 Ko) n p.2) = some r → (∀ e A, Ko e A = some r → K e A) → Gx.Sem Try.prog (env n) (.loop b2) A K :=
  fun A Ko r K h hk => loop_cod (P := Try.prog) (E := env n) (T := tab ρ n) (fun _ _ _ h => answers_ok h) F2 d2 (st2 n) d2_ok (show Cov _ (env n) (tab ρ n) b2 from ⟨trivial, ⟨⟨trivial, trivial⟩, ⟨⟨trivial, ⟨trivial, ⟨⟨trivial, trivial⟩, trivial⟩⟩⟩, trivial⟩⟩⟩) (fun c Ko s nx => step2 ρ n c Ko s nx) n A Ko r K h hk
def enc (a : (List Int) × Int) : List AV := [.ls (.ints .i64 a.1), .fn 28 [.lb [.pv (.int .i64 a.2)] 0]]
def dec : List AV → Option ((List Int) × Int)
  | [.ls (.ints .i64 s_0), .fn 28 [.lb [.pv (.int .i64 f1)] 0]] => some (s_0, f1)
  | _ => none
def emb (b : Int) : AV × List AV := (.pv (.int .i64 b), [])
def dr : AV → List AV → Option (Int)
  | .pv (.int .i64 r0), [] => some r0
  | _, _ => none
theorem dec_ok (vs : List AV) (a : (List Int) × Int) (h : dec vs = some a) : vs = enc a := by
  unfold dec at h
  split at h
  · cases h; rfl
  · cases h
theorem dr_ok (v : AV) (o : List AV) (b : Int) (h : dr v o = some b) : emb b = (v, o) := by
  unfold dr at h
  split at h
  · cases h; rfl
  · cases h
noncomputable def ent (n : Nat) : Ent := { f := 48, ms := [.lend, .lend], α := (List Int) × Int, β := Int, dec := dec, enc := enc, emb := emb, m := fun a => Gm.slices_IndexFunc_intint__triple_Grow_1 n a.1 a.2, hdec := dec_ok }
theorem run (n : Nat) (a : (List Int) × Int) : AEO (env n) (answers (Int) (used n) (used n)) (tab (Int) n) body (frameOf (enc a) 0) (bodyO (env n) Try.f48.results.toList (enc a) dr) = (ent n).m a := by kernel_rfl
theorem ok (n : Nat) (hl : EntsOK Try.prog gl (used n)) : EntOK Try.prog gl (ent n) :=
  fnO_sound (P := Try.prog) (e := ent n) (fn := Try.f48) (body := body) (l := used n) (te := te) (gl := gl) (n := ⟨4, 19⟩) (cut := []) (keep := keep) (T := tab (Int) n) (dr := dr) Try.func48 (by kernel_rfl) (by kernel_rfl) te_ok (by kernel_rfl) (by kernel_rfl) hl (show Cov _ (env n) (tab (Int) n) body from ⟨trivial, ⟨⟨trivial, lp2_ok n hl⟩, ⟨trivial, trivial⟩⟩⟩) dr_ok (fun a => ⟨rfl, rfl⟩) (run n)
theorem all_ok (n : Nat) : EntOK Try.prog gl (ent n) := ok n ⟨W_triple_Grow_1.all_ok n, trivial⟩
end W_slices_IndexFunc_intint__triple_Grow_1
namespace W_slices_ContainsFunc_intint__triple_Grow_1
noncomputable def body : Code := Try.f27.body.getD .skip
def keep : List (Nat × List Nat) := []
noncomputable def used (n : Nat) : List Ent := [W_slices_IndexFunc_intint__triple_Grow_1.ent n]
noncomputable def env (n : Nat) : Env := envOf te gl (used n) ⟨4, 9⟩ [] keep
noncomputable def tab (ρ : Type) (_n : Nat) : Tab ρ := { live := [(0, [0, 1]), (1, [4])], xl := [], rl := [4], fz := [], jp := [], lp := [] }
def enc (a : (List Int) × Int) : List AV := [.ls (.ints .i64 a.1), .fn 28 [.lb [.pv (.int .i64 a.2)] 0]]
def dec : List AV → Option ((List Int) × Int)
  | [.ls (.ints .i64 s_0), .fn 28 [.lb [.pv (.int .i64 f1)] 0]] => some (s_0, f1)
  | _ => none
def emb (b : Bool) : AV × List AV := (.pv (.bool b), [])
def dr : AV → List AV → Option (Bool)
  | .pv (.bool r0), [] => some r0
  | _, _ => none
theorem dec_ok (vs : List AV) (a : (List Int) × Int) (h : dec vs = some a) : vs = enc a := by
  unfold dec at h
  split at h
  · cases h; rfl
  · cases h
theorem dr_ok (v : AV) (o : List AV) (b : Bool) (h : dr v o = some b) : emb b = (v, o) := by
  unfold dr at h
  split at h
  · cases h; rfl
  · cases h
noncomputable def ent (n : Nat) : Ent := { f := 27, ms := [.lend, .lend], α := (List Int) × Int, β := Bool, dec := dec, enc := enc, emb := emb, m := fun a => Gm.slices_ContainsFunc_intint__triple_Grow_1 n a.1 a.2, hdec := dec_ok }
theorem run (n : Nat) (a : (List Int) × Int) : AEO (env n) (answers (Bool) (used n) (used n)) (tab (Bool) n) body (frameOf (enc a) 0) (bodyO (env n) Try.f27.results.toList (enc a) dr) = (ent n).m a := by kernel_rfl
theorem ok (n : Nat) (hl : EntsOK Try.prog gl (used n)) : EntOK Try.prog gl (ent n) :=
  fnO_sound (P := Try.prog) (e := ent n) (fn := Try.f27) (body := body) (l := used n) (te := te) (gl := gl) (n := ⟨4, 9⟩) (cut := []) (keep := keep) (T := tab (Bool) n) (dr := dr) Try.func27 (by kernel_rfl) (by kernel_rfl) te_ok (by kernel_rfl) (by kernel_rfl) hl (show Cov _ (env n) (tab (Bool) n) body from ⟨trivial, ⟨trivial, trivial⟩⟩) dr_ok (fun a => ⟨rfl, rfl⟩) (run n)
theorem all_ok (n : Nat) : EntOK Try.prog gl (ent n) := ok n ⟨W_slices_IndexFunc_intint__triple_Grow_1.all_ok n, trivial⟩
end W_slices_ContainsFunc_intint__triple_Grow_1
namespace W_slices_Sort
def ent (_n : Nat) : Ent := sortIE 45 3
theorem all_ok (n : Nat) : EntOK Try.prog gl (ent n) := sortI_ok (by kernel_rfl) (fun blk off cap zs w h1 h2 h3 => Try.slices_Sort_int blk off cap zs w h1 h2 h3) (fun p cap w => Any.slices_Sort_int_none Try.lays189 p cap w)
end W_slices_Sort
namespace W_triple_lister_add
noncomputable def body : Code := Try.f29.body.getD .skip
def keep : List (Nat × List Nat) := []
noncomputable def used (n : Nat) : List Ent := [W_slices_Sort.ent n]
noncomputable def env (n : Nat) : Env := envOf te gl (used n) ⟨8, 25⟩ [] keep
noncomputable def tab (ρ : Type) (_n : Nat) : Tab ρ := { live := [(0, [0, 8]), (1, [0, 8]), (2, [0])], xl := [], rl := [0], fz := [], jp := [], lp := [] }
def enc (a : (List (List Int)) × Int × Int × Int × Int) : List AV := [.bx [.ow 41 (.rows a.1), .pv (.int .i64 a.2.1)], .pv (.int .i64 a.2.2.1), .pv (.int .i64 a.2.2.2.1), .pv (.int .i64 a.2.2.2.2)]
def dec : List AV → Option ((List (List Int)) × Int × Int × Int × Int)
  | [.bx [.ow 41 (.rows l0_0), .pv (.int .i64 l0_1)], .pv (.int .i64 a1), .pv (.int .i64 b2), .pv (.int .i64 c_3)] => some (l0_0, l0_1, a1, b2, c_3)
  | _ => none
def emb (b : (List (List Int)) × Int) : AV × List AV := (.tp [], [.bx [.ow 41 (.rows b.1), .pv (.int .i64 b.2)]])
def dr : AV → List AV → Option ((List (List Int)) × Int)
  | .tp [], [.bx [.ow 41 (.rows r0), .pv (.int .i64 r1)]] => some (r0, r1)
  | _, _ => none
theorem dec_ok (vs : List AV) (a : (List (List Int)) × Int × Int × Int × Int) (h : dec vs = some a) : vs = enc a := by
  unfold dec at h
  split at h
  · cases h; rfl
  · cases h
theorem dr_ok (v : AV) (o : List AV) (b : (List (List Int)) × Int) (h : dr v o = some b) : emb b = (v, o) := by
  unfold dr at h
  split at h
  · cases h; rfl
  · cases h
noncomputable def ent (n : Nat) : Ent := { f := 29, ms := [.io, .lend, .lend, .lend], α := (List (List Int)) × Int × Int × Int × Int, β := (List (List Int)) × Int, dec := dec, enc := enc, emb := emb, m := fun a => Gm.triple_lister_add n a.1 a.2.1 a.2.2.1 a.2.2.2.1 a.2.2.2.2, hdec := dec_ok }
theorem run (n : Nat) (a : (List (List Int)) × Int × Int × Int × Int) : AEO (env n) (answers ((List (List Int)) × Int) (used n) (used n)) (tab ((List (List Int)) × Int) n) body (frameOf (enc a) 0) (bodyO (env n) Try.f29.results.toList (enc a) dr) = (ent n).m a := by kernel_rfl
theorem ok (n : Nat) (hl : EntsOK Try.prog gl (used n)) : EntOK Try.prog gl (ent n) :=
  fnO_sound (P := Try.prog) (e := ent n) (fn := Try.f29) (body := body) (l := used n) (te := te) (gl := gl) (n := ⟨8, 25⟩) (cut := []) (keep := keep) (T := tab ((List (List Int)) × Int) n) (dr := dr) Try.func29 (by kernel_rfl) (by kernel_rfl) te_ok (by kernel_rfl) (by kernel_rfl) hl (show Cov _ (env n) (tab ((List (List Int)) × Int) n) body from ⟨trivial, ⟨trivial, trivial⟩⟩) dr_ok (fun a => ⟨rfl, rfl⟩) (run n)
theorem all_ok (n : Nat) : EntOK Try.prog gl (ent n) := ok n ⟨W_slices_Sort.all_ok n, trivial⟩
end W_triple_lister_add
namespace W_triple_third
noncomputable def body : Code := Try.f30.body.getD .skip
def keep : List (Nat × List Nat) := [(3, [0, 2, 4, 13]), (6, [0, 2, 4, 5, 13, 16]), (12, [2, 4, 25, 26, 27]), (15, [2, 4, 8, 25, 26, 27, 31, 32, 33])]
noncomputable def used (_n : Nat) : List Ent := []
noncomputable def env (n : Nat) : Env := envOf te gl (used n) ⟨2, 70⟩ [] keep
def F6 (c : (List (List Int)) × (List Int) × Int × Int) (s : (List Int) × Int) : Fr := [(0, .ls (.rows c.1)), (2, .ba (.ints .i64 c.2.1)), (4, .ba (.ints .i64 s.1)), (5, .pv (.int .i64 c.2.2.1)), (13, .pv (.int .i64 c.2.2.2)), (16, .pv (.int .i64 s.2))]
def d6 : Fr → Option (((List (List Int)) × (List Int) × Int × Int) × ((List Int) × Int))
  | [(0, .ls (.rows toArray0)), (2, .ba (.ints .i64 t2)), (4, .ba (.ints .i64 t4)), (5, .pv (.int .i64 t5)), (13, .pv (.int .i64 t13)), (16, .pv (.int .i64 t16))] => some ((toArray0, t2, t5, t13), (t4, t16))
  | _ => none
def st6 {ρ : Type} (n : Nat) (c : (List (List Int)) × (List Int) × Int × Int) (Ko : Exit → Fr → Option ρ) (s : (List Int) × Int) (nx : ((List Int) × Int) → Option ρ) : Option ρ :=
  Gm.triple_third_s6 n c.1 c.2.1 c.2.2.1 c.2.2.2 s.1 s.2 (fun a0 a1 => nx (a0, a1)) (fun (y0 : List Int) => Ko (.exit 2) [(0, .ls (.rows c.1)), (2, .ba (.ints .i64 c.2.1)), (4, .ba (.ints .i64 y0)), (13, .pv (.int .i64 c.2.2.2))])
def F3 (c : (List (List Int)) × (List Int)) (s : (List Int) × Int) : Fr := [(0, .ls (.rows c.1)), (2, .ba (.ints .i64 c.2)), (4, .ba (.ints .i64 s.1)), (13, .pv (.int .i64 s.2))]
def d3 : Fr → Option (((List (List Int)) × (List Int)) × ((List Int) × Int))
  | [(0, .ls (.rows toArray0)), (2, .ba (.ints .i64 t2)), (4, .ba (.ints .i64 t4)), (13, .pv (.int .i64 t13))] => some ((toArray0, t2), (t4, t13))
  | _ => none
def st3 {ρ : Type} (n : Nat) (c : (List (List Int)) × (List Int)) (Ko : Exit → Fr → Option ρ) (s : (List Int) × Int) (nx : ((List Int) × Int) → Option ρ) : Option ρ :=
  Gm.triple_third_s3 n c.1 c.2 s.1 s.2 (fun a0 a1 => nx (a0, a1)) (fun (y0 : List Int) => Ko (.exit 0) [(0, .ls (.rows c.1)), (2, .ba (.ints .i64 c.2)), (4, .ba (.ints .i64 y0))])
def F15 (c : (List Int) × (List Int) × (List (List Int)) × Int × Int × (List Int) × Int) (s : (List Int) × Int) : Fr := [(2, .ba (.ints .i64 c.1)), (4, .ba (.ints .i64 s.1)), (8, .sl (.ints .i64 c.2.1)), (25, .ls (.rows c.2.2.1)), (26, .pv (.int .i64 c.2.2.2.1)), (27, .pv (.int .i64 c.2.2.2.2.1)), (31, .sl (.ints .i64 c.2.2.2.2.2.1)), (32, .pv (.int .i64 c.2.2.2.2.2.2)), (33, .pv (.int .i64 s.2))]
def d15 : Fr → Option (((List Int) × (List Int) × (List (List Int)) × Int × Int × (List Int) × Int) × ((List Int) × Int))
  | [(2, .ba (.ints .i64 t2)), (4, .ba (.ints .i64 t4)), (8, .sl (.ints .i64 t8)), (25, .ls (.rows t25)), (26, .pv (.int .i64 t26)), (27, .pv (.int .i64 t27)), (31, .sl (.ints .i64 t31)), (32, .pv (.int .i64 t32)), (33, .pv (.int .i64 t33))] => some ((t2, t8, t25, t26, t27, t31, t32), (t4, t33))
  | _ => none
def st15 {ρ : Type} (n : Nat) (c : (List Int) × (List Int) × (List (List Int)) × Int × Int × (List Int) × Int) (Ko : Exit → Fr → Option ρ) (s : (List Int) × Int) (nx : ((List Int) × Int) → Option ρ) : Option ρ :=
  Gm.triple_third_s15 n c.1 c.2.1 c.2.2.1 c.2.2.2.1 c.2.2.2.2.1 c.2.2.2.2.2.1 c.2.2.2.2.2.2 s.1 s.2 (fun a0 a1 => nx (a0, a1)) (fun (y0 : List Int) => Ko .ret [(3, .pv (.bool false)), (2, .ba (.ints .i64 y0))]) (fun (y0 : List Int) => Ko (.exit 6) [(2, .ba (.ints .i64 c.1)), (4, .ba (.ints .i64 y0)), (25, .ls (.rows c.2.2.1)), (26, .pv (.int .i64 c.2.2.2.1)), (27, .pv (.int .i64 c.2.2.2.2.1))])
def F12 (c : (List Int) × (List (List Int)) × Int) (s : (List Int) × Int) : Fr := [(2, .ba (.ints .i64 c.1)), (4, .ba (.ints .i64 s.1)), (25, .ls (.rows c.2.1)), (26, .pv (.int .i64 c.2.2)), (27, .pv (.int .i64 s.2))]
def d12 : Fr → Option (((List Int) × (List (List Int)) × Int) × ((List Int) × Int))
  | [(2, .ba (.ints .i64 t2)), (4, .ba (.ints .i64 t4)), (25, .ls (.rows t25)), (26, .pv (.int .i64 t26)), (27, .pv (.int .i64 t27))] => some ((t2, t25, t26), (t4, t27))
  | _ => none
def st12 {ρ : Type} (n : Nat) (c : (List Int) × (List (List Int)) × Int) (Ko : Exit → Fr → Option ρ) (s : (List Int) × Int) (nx : ((List Int) × Int) → Option ρ) : Option ρ :=
  Gm.triple_third_s12 n c.1 c.2.1 c.2.2 s.1 s.2 (fun a0 a1 => nx (a0, a1)) (fun (y0 : List Int) => Ko .ret [(3, .pv (.bool false)), (2, .ba (.ints .i64 y0))]) (fun (y0 : List Int) => Ko (.exit 4) [(2, .ba (.ints .i64 c.1)), (4, .ba (.ints .i64 y0))])
noncomputable def tab (ρ : Type) (n : Nat) : Tab ρ := { live := [(0, [0, 2]), (1, [0, 2, 4]), (2, [0, 2, 4, 13]), (3, [0, 2, 4, 13, 14]), (4, [0, 2, 4, 5, 13]), (5, [0, 2, 4, 5, 13, 16]), (6, [0, 2, 4, 5, 13, 16, 17]), (7, [0, 2, 4, 5, 6, 13, 16]), (8, [0, 2, 4, 5, 13, 16]), (9, [0, 2, 4, 5, 13, 16]), (10, [0, 2, 4, 13]), (11, [2, 4, 25, 26, 27]), (12, [2, 4, 25, 26, 27, 28]), (13, [2, 4, 8, 25, 26, 27]), (14, [2, 4, 8, 25, 26, 27, 31, 32, 33]), (15, [2, 4, 8, 25, 26, 27, 31, 32, 33, 34]), (16, [2, 4, 8, 9, 10, 25, 26, 27, 31, 32, 33]), (17, [2, 4, 8, 10, 11, 12, 25, 26, 27, 31, 32, 33]), (18, [2, 4, 8, 10, 11, 12, 25, 26, 27, 31, 32, 33, 55]), (19, [2, 3]), (20, [2, 4, 8, 25, 26, 27, 31, 32, 33]), (21, [2, 4, 8, 25, 26, 27, 31, 32, 33]), (22, [2, 4, 25, 26, 27]), (23, [2, 3])], xl := [(0, [0, 2, 4]), (1, [0, 2, 4, 13]), (2, [0, 2, 4, 13]), (3, [0, 2, 4, 5, 13, 16]), (4, [2, 4]), (5, [2, 4, 25, 26, 27]), (6, [2, 4, 25, 26, 27]), (7, [2, 4, 8, 25, 26, 27, 31, 32, 33])], rl := [2, 3], fz := [], jp := [], lp := [(6, fun A Ko => bnd (d6 A) fun p => iterM (st6 n p.1 Ko) n p.2), (3, fun A Ko => bnd (d3 A) fun p => iterM (st3 n p.1 Ko) n p.2), (15, fun A Ko => bnd (d15 A) fun p => iterM (st15 n p.1 Ko) n p.2), (12, fun A Ko => bnd (d12 A) fun p => iterM (st12 n p.1 Ko) n p.2)] }
noncomputable def b6 : Code := (cL (cB (c2 (c2 (cB (c1 (c2 (c2 (cL (cB (c2 (c1 (c2 (c2 body))))))))))))))
theorem d6_ok (A : Fr) (c : (List (List Int)) × (List Int) × Int × Int) (s : (List Int) × Int) (h : d6 A = some (c, s)) : A = F6 c s := by
  unfold d6 at h
  split at h
  · cases h; rfl
  · cases h
theorem step6 (ρ : Type) (n : Nat) (c : (List (List Int)) × (List Int) × Int × Int) (Ko : Exit → Fr → Option ρ) (s : (List Int) × Int) (nx : ((List (List Int)) × (List Int) × Int × Int) → ((List Int) × Int) → Option ρ) :
    AEO (env n) (answers ρ (used n) (used n)) (tab ρ n) b6 (F6 c s) (thenO (fun A => bnd (d6 (restr (keepOf (env n) b6) A)) fun p => nx p.1 p.2) Ko) = st6 n c Ko s (nx c) := by kernel_rfl
theorem lp6_ok {ρ : Type} (n : Nat) (hl : EntsOK Try.prog gl (used n)) : ∀ (A : Fr) (Ko : Exit → Fr → Option ρ) (r : ρ) (K : Exit → Fr → Prop), (bnd (d6 (restr (keepOf (env n) b6) A)) fun p => iterM (st6 n p.1 Ko) n p.2) = some r → (∀ e A, Ko e A = some r → K e A) → Gx.Sem Try.prog (env n) (.loop b6) A K :=
  fun A Ko r K h hk => loop_cod (P := Try.prog) (E := env n) (T := tab ρ n) (fun _ _ _ h => answers_ok h) F6 d6 (st6 n) d6_ok (show Cov _ (env n) (tab ρ n) b6 from ⟨trivial, ⟨⟨trivial, trivial⟩, ⟨⟨trivial, trivial⟩, trivial⟩⟩⟩) (fun c Ko s nx => step6 ρ n c Ko s nx) n A Ko r K h hk
noncomputable def b3 : Code := (cL (cB (c2 (c1 (c2 (c2 body))))))
theorem d3_ok (A : Fr) (c : (List (List Int)) × (List Int)) (s : (List Int) × Int) (h : d3 A = some (c, s)) : A = F3 c s := by
  unfold d3 at h
  split at h
  · cases h; rfl
  · cases h
theorem step3 (ρ : Type) (n : Nat) (c : (List (List Int)) × (List Int)) (Ko : Exit → Fr → Option ρ) (s : (List Int) × Int) (nx : ((List (List Int)) × (List Int)) → ((List Int) × Int) → Option ρ) :
    AEO (env n) (answers ρ (used n) (used n)) (tab ρ n) b3 (F3 c s) (thenO (fun A => bnd (d3 (restr (keepOf (env n) b3) A)) fun p => nx p.1 p.2) Ko) = st3 n c Ko s (nx c) := by kernel_rfl
theorem lp3_ok {ρ : Type} (n : Nat) (hl : EntsOK Try.prog gl (used n)) : ∀ (A : Fr) (Ko : Exit → Fr → Option ρ) (r : ρ) (K : Exit → Fr → Prop), (bnd (d3 (restr (keepOf (env n) b3) A)) fun p => iterM (st3 n p.1 Ko) n p.2) = some r → (∀ e A, Ko e A = some r → K e A) → Gx.Sem Try.prog (env n) (.loop b3) A K :=
  fun A Ko r K h hk => loop_cod (P := Try.prog) (E := env n) (T := tab ρ n) (fun _ _ _ h => answers_ok h) F3 d3 (st3 n) d3_ok (show Cov _ (env n) (tab ρ n) b3 from ⟨trivial, ⟨⟨trivial, trivial⟩, ⟨⟨trivial, ⟨trivial, lp6_ok n hl⟩⟩, trivial⟩⟩⟩) (fun c Ko s nx => step3 ρ n c Ko s nx) n A Ko r K h hk
noncomputable def b15 : Code := (cL (cB (c2 (c2 (cB (c1 (c2 (c2 (cL (cB (c2 (c1 (c2 (c2 (c2 body)))))))))))))))
theorem d15_ok (A : Fr) (c : (List Int) × (List Int) × (List (List Int)) × Int × Int × (List Int) × Int) (s : (List Int) × Int) (h : d15 A = some (c, s)) : A = F15 c s := by
  unfold d15 at h
  split at h
  · cases h; rfl
  · cases h
theorem step15 (ρ : Type) (n : Nat) (c : (List Int) × (List Int) × (List (List Int)) × Int × Int × (List Int) × Int) (Ko : Exit → Fr → Option ρ) (s : (List Int) × Int) (nx : ((List Int) × (List Int) × (List (List Int)) × Int × Int × (List Int) × Int) → ((List Int) × Int) → Option ρ) :
    AEO (env n) (answers ρ (used n) (used n)) (tab ρ n) b15 (F15 c s) (thenO (fun A => bnd (d15 (restr (keepOf (env n) b15) A)) fun p => nx p.1 p.2) Ko) = st15 n c Ko s (nx c) := by kernel_rfl
theorem lp15_ok {ρ : Type} (n : Nat) (hl : EntsOK Try.prog gl (used n)) : ∀ (A : Fr) (Ko : Exit → Fr → Option ρ) (r : ρ) (K : Exit → Fr → Prop), (bnd (d15 (restr (keepOf (env n) b15) A)) fun p => iterM (st15 n p.1 Ko) n p.2) = some r → (∀ e A, Ko e A = some r → K e A) → Gx.Sem Try.prog (env n) (.loop b15) A K :=
  fun A Ko r K h hk => loop_cod (P := Try.prog) (E := env n) (T := tab ρ n) (fun _ _ _ h => answers_ok h) F15 d15 (st15 n) d15_ok (show Cov _ (env n) (tab ρ n) b15 from ⟨trivial, ⟨⟨trivial, trivial⟩, ⟨⟨trivial, ⟨trivial, ⟨⟨trivial, ⟨⟨trivial, trivial⟩, trivial⟩⟩, trivial⟩⟩⟩, trivial⟩⟩⟩) (fun c Ko s nx => step15 ρ n c Ko s nx) n A Ko r K h hk
noncomputable def b12 : Code := (cL (cB (c2 (c1 (c2 (c2 (c2 body)))))))
theorem d12_ok (A : Fr) (c : (List Int) × (List (List Int)) × Int) (s : (List Int) × Int) (h : d12 A = some (c, s)) : A = F12 c s := by
  unfold d12 at h
  split at h
  · cases h; rfl
  · cases h
theorem step12 (ρ : Type) (n : Nat) (c : (List Int) × (List (List Int)) × Int) (Ko : Exit → Fr → Option ρ) (s : (List Int) × Int) (nx : ((List Int) × (List (List Int)) × Int) → ((List Int) × Int) → Option ρ) :
    AEO (env n) (answers ρ (used n) (used n)) (tab ρ n) b12 (F12 c s) (thenO (fun A => bnd (d12 (restr (keepOf (env n) b12) A)) fun p => nx p.1 p.2) Ko) = st12 n c Ko s (nx c) := by kernel_rfl
theorem lp12_ok {ρ : Type} (n : Nat) (hl : EntsOK Try.prog gl (used n)) : ∀ (A : Fr) (Ko : Exit → Fr → Option ρ) (r : ρ) (K : Exit → Fr → Prop), (bnd (d12 (restr (keepOf (env n) b12) A)) fun p => iterM (st12 n p.1 Ko) n p.2) = some r → (∀ e A, Ko e A = some r → K e A) → Gx.Sem Try.prog (env n) (.loop b12) A K :=
  fun A Ko r K h hk => loop_cod (P := Try.prog) (E := env n) (T := tab ρ n) (fun _ _ _ h => answers_ok h) F12 d12 (st12 n) d12_ok (show Cov _ (env n) (tab ρ n) b12 from ⟨trivial, ⟨⟨trivial, trivial⟩, ⟨⟨trivial, ⟨trivial, lp15_ok n hl⟩⟩, trivial⟩⟩⟩) (fun c Ko s nx => step12 ρ n c Ko s nx) n A Ko r K h hk
def enc (a : List (List Int)) : List AV := [.ls (.rows a)]
def dec : List AV → Option (List (List Int))
  | [.ls (.rows toArray0)] => some toArray0
  | _ => none
def emb (b : (List Int) × Bool) : AV × List AV := (.tp [.aa (.ints .i64 b.1), .pv (.bool b.2)], [])
def dr : AV → List AV → Option ((List Int) × Bool)
  | .tp [.aa (.ints .i64 r0), .pv (.bool r1)], [] => some (r0, r1)
  | _, _ => none
theorem dec_ok (vs : List AV) (a : List (List Int)) (h : dec vs = some a) : vs = enc a := by
  unfold dec at h
  split at h
  · cases h; rfl
  · cases h
theorem dr_ok (v : AV) (o : List AV) (b : (List Int) × Bool) (h : dr v o = some b) : emb b = (v, o) := by
  unfold dr at h
  split at h
  · cases h; rfl
  · cases h
noncomputable def ent (n : Nat) : Ent := { f := 30, ms := [.lend], α := List (List Int), β := (List Int) × Bool, dec := dec, enc := enc, emb := emb, m := fun a => Gm.triple_third n a, hdec := dec_ok }
theorem run (n : Nat) (a : List (List Int)) : AEO (env n) (answers ((List Int) × Bool) (used n) (used n)) (tab ((List Int) × Bool) n) body (frameOf (enc a) 0) (bodyO (env n) Try.f30.results.toList (enc a) dr) = (ent n).m a := by kernel_rfl
theorem ok (n : Nat) (hl : EntsOK Try.prog gl (used n)) : EntOK Try.prog gl (ent n) :=
  fnO_sound (P := Try.prog) (e := ent n) (fn := Try.f30) (body := body) (l := used n) (te := te) (gl := gl) (n := ⟨2, 70⟩) (cut := []) (keep := keep) (T := tab ((List Int) × Bool) n) (dr := dr) Try.func30 (by kernel_rfl) (by kernel_rfl) te_ok (by kernel_rfl) (by kernel_rfl) hl (show Cov _ (env n) (tab ((List Int) × Bool) n) body from ⟨trivial, ⟨trivial, ⟨⟨trivial, lp3_ok n hl⟩, ⟨⟨trivial, lp12_ok n hl⟩, ⟨trivial, trivial⟩⟩⟩⟩⟩) dr_ok (fun a => ⟨rfl, rfl⟩) (run n)
theorem all_ok (n : Nat) : EntOK Try.prog gl (ent n) := ok n trivial
end W_triple_third
namespace W_triple_system_grow
def enc (a : (List (List Int)) × Int × (List Int) × Int × Int) : List AV := [.bx [.ow 41 (.rows a.1), .pv (.int .i64 a.2.1)], .ba (.ints .i64 a.2.2.1), .pv (.int .i64 a.2.2.2.1), .pv (.int .i64 a.2.2.2.2)]
def dec : List AV → Option ((List (List Int)) × Int × (List Int) × Int × Int)
  | [.bx [.ow 41 (.rows s_0_0), .pv (.int .i64 s_0_1)], .ba (.ints .i64 t1), .pv (.int .i64 p2), .pv (.int .i64 q3)] => some (s_0_0, s_0_1, t1, p2, q3)
  | _ => none
def emb (b : Bool × (List (List Int)) × Int × (List Int)) : AV × List AV := (.pv (.bool b.1), [.bx [.ow 41 (.rows b.2.1), .pv (.int .i64 b.2.2.1)], .ba (.ints .i64 b.2.2.2)])
def dr : AV → List AV → Option (Bool × (List (List Int)) × Int × (List Int))
  | .pv (.bool r0), [.bx [.ow 41 (.rows r1), .pv (.int .i64 r2)], .ba (.ints .i64 r3)] => some (r0, r1, r2, r3)
  | _, _ => none
theorem dec_ok (vs : List AV) (a : (List (List Int)) × Int × (List Int) × Int × Int) (h : dec vs = some a) : vs = enc a := by
  unfold dec at h
  split at h
  · cases h; rfl
  · cases h
theorem dr_ok (v : AV) (o : List AV) (b : Bool × (List (List Int)) × Int × (List Int)) (h : dr v o = some b) : emb b = (v, o) := by
  unfold dr at h
  split at h
  · cases h; rfl
  · cases h
noncomputable def entR (R : List (List Int) → Int → List Int → Int → Int → Option (Bool × (List (List Int)) × Int × (List Int))) : Ent := { f := 31, ms := [.io, .io, .lend, .lend], α := (List (List Int)) × Int × (List Int) × Int × Int, β := Bool × (List (List Int)) × Int × (List Int), dec := dec, enc := enc, emb := emb, m := fun a => R a.1 a.2.1 a.2.2.1 a.2.2.2.1 a.2.2.2.2, hdec := dec_ok }
end W_triple_system_grow
namespace W_triple_system_try
noncomputable def body : Code := Try.f49.body.getD .skip
def keep : List (Nat × List Nat) := [(2, [0, 1, 2, 3, 9])]
noncomputable def used (n : Nat) (R : List (List Int) → Int → List Int → Int → Int → Option (Bool × (List (List Int)) × Int × (List Int))) : List Ent := [W_triple_lister_add.ent n, W_triple_system_grow.entR R]
noncomputable def env (n : Nat) (R : List (List Int) → Int → List Int → Int → Int → Option (Bool × (List (List Int)) × Int × (List Int))) : Env := envOf te gl (used n R) ⟨8, 117⟩ [112] keep
def F2 (c : (List Int) × Int × Int) (s : (List (List Int)) × Int × Int) : Fr := [(0, .bx [.ow 41 (.rows s.1), .pv (.int .i64 s.2.1)]), (1, .ba (.ints .i64 c.1)), (2, .pv (.int .i64 c.2.1)), (3, .pv (.int .i64 c.2.2)), (9, .pv (.int .i64 s.2.2))]
def d2 : Fr → Option (((List Int) × Int × Int) × ((List (List Int)) × Int × Int))
  | [(0, .bx [.ow 41 (.rows toArray0_0), .pv (.int .i64 toArray0_1)]), (1, .ba (.ints .i64 t1)), (2, .pv (.int .i64 t2)), (3, .pv (.int .i64 t3)), (9, .pv (.int .i64 t9))] => some ((t1, t2, t3), (toArray0_0, toArray0_1, t9))
  | _ => none
def st2 {ρ : Type} (n : Nat) (R : List (List Int) → Int → List Int → Int → Int → Option (Bool × (List (List Int)) × Int × (List Int))) (c : (List Int) × Int × Int) (Ko : Exit → Fr → Option ρ) (s : (List (List Int)) × Int × Int) (nx : ((List (List Int)) × Int × Int) → Option ρ) : Option ρ :=
  Gm.triple_system_try_s2 n R c.1 c.2.1 c.2.2 s.1 s.2.1 s.2.2 (fun a0 a1 a2 => nx (a0, a1, a2)) (fun (y0 : List (List Int)) (y1 : Int) (y2 : List Int) => Ko .ret [(8, .pv (.bool true)), (0, .bx [.ow 41 (.rows y0), .pv (.int .i64 y1)]), (1, .ba (.ints .i64 y2))]) (fun (y0 : List (List Int)) (y1 : Int) => Ko (.exit 0) [(0, .bx [.ow 41 (.rows y0), .pv (.int .i64 y1)]), (1, .ba (.ints .i64 c.1))])
noncomputable def tab (ρ : Type) (n : Nat) (R : List (List Int) → Int → List Int → Int → Int → Option (Bool × (List (List Int)) × Int × (List Int))) : Tab ρ := { live := [(0, [0, 1, 2, 3]), (1, [0, 1, 2, 3, 9]), (2, [0, 1, 2, 3, 9, 19]), (3, [0, 1, 2, 3, 9]), (4, [0, 1, 2, 3, 9, 39]), (5, [0, 1, 2, 3, 9, 10, 11]), (6, [0, 1, 2, 3, 9, 10, 11]), (7, [0, 1, 2, 3, 9, 10, 11]), (8, [0, 1, 2, 3, 9, 10, 11]), (9, [0, 1, 2, 3, 9, 10, 11, 102]), (10, [0, 1, 8]), (11, [0, 1, 2, 3, 9]), (12, [0, 1, 8])], xl := [(0, [0, 1]), (1, [0, 1, 2, 3, 9])], rl := [0, 1, 8], fz := [], jp := [], lp := [(2, fun A Ko => bnd (d2 A) fun p => iterM (st2 n R p.1 Ko) n p.2)] }
noncomputable def b2 : Code := (cL (cB (c2 (c1 (c2 body)))))
theorem d2_ok (A : Fr) (c : (List Int) × Int × Int) (s : (List (List Int)) × Int × Int) (h : d2 A = some (c, s)) : A = F2 c s := by
  unfold d2 at h
  split at h
  · cases h; rfl
  · cases h
theorem step2 (ρ : Type) (n : Nat) (R : List (List Int) → Int → List Int → Int → Int → Option (Bool × (List (List Int)) × Int × (List Int))) (c : (List Int) × Int × Int) (Ko : Exit → Fr → Option ρ) (s : (List (List Int)) × Int × Int) (nx : ((List Int) × Int × Int) → ((List (List Int)) × Int × Int) → Option ρ) :
    AEO (env n R) (answers ρ (used n R) (used n R)) (tab ρ n R) b2 (F2 c s) (thenO (fun A => bnd (d2 (restr (keepOf (env n R) b2) A)) fun p => nx p.1 p.2) Ko) = st2 n R c Ko s (nx c) := by kernel_rfl
theorem lp2_ok {ρ : Type} (n : Nat) (R : List (List Int) → Int → List Int → Int → Int → Option (Bool × (List (List Int)) × Int × (List Int))) (hl : EntsOK Try.prog gl (used n R)) : ∀ (A : Fr) (Ko : Exit → Fr → Option ρ) (r : ρ) (K : Exit → Fr → Prop), (bnd (d2 (restr (keepOf (env n R) b2) A)) fun p => iterM (st2 n R p.1 Ko) n p.2) = some r → (∀ e A, Ko e A = some r → K e A) → Gx.Sem Try.prog (env n R) (.loop b2) A K :=
  fun A Ko r K h hk => loop_cod (P := Try.prog) (E := env n R) (T := tab ρ n R) (fun _ _ _ h => answers_ok h) F2 d2 (st2 n R) d2_ok (show Cov _ (env n R) (tab ρ n R) b2 from ⟨⟨trivial, ⟨trivial, trivial⟩⟩, ⟨⟨⟨trivial, ⟨trivial, trivial⟩⟩, ⟨trivial, ⟨trivial, ⟨trivial, ⟨trivial, ⟨⟨trivial, ⟨⟨trivial, trivial⟩, trivial⟩⟩, trivial⟩⟩⟩⟩⟩⟩, trivial⟩⟩) (fun c Ko s nx => step2 ρ n R c Ko s nx) n A Ko r K h hk
def enc (a : (List (List Int)) × Int × (List Int) × Int × Int) : List AV := [.bx [.ow 41 (.rows a.1), .pv (.int .i64 a.2.1)], .ba (.ints .i64 a.2.2.1), .pv (.int .i64 a.2.2.2.1), .pv (.int .i64 a.2.2.2.2)]
def dec : List AV → Option ((List (List Int)) × Int × (List Int) × Int × Int)
  | [.bx [.ow 41 (.rows toArray0_0), .pv (.int .i64 toArray0_1)], .ba (.ints .i64 t1), .pv (.int .i64 t2), .pv (.int .i64 t3)] => some (toArray0_0, toArray0_1, t1, t2, t3)
  | _ => none
def emb (b : Bool × (List (List Int)) × Int × (List Int)) : AV × List AV := (.pv (.bool b.1), [.bx [.ow 41 (.rows b.2.1), .pv (.int .i64 b.2.2.1)], .ba (.ints .i64 b.2.2.2)])
def dr : AV → List AV → Option (Bool × (List (List Int)) × Int × (List Int))
  | .pv (.bool r0), [.bx [.ow 41 (.rows r1), .pv (.int .i64 r2)], .ba (.ints .i64 r3)] => some (r0, r1, r2, r3)
  | _, _ => none
theorem dec_ok (vs : List AV) (a : (List (List Int)) × Int × (List Int) × Int × Int) (h : dec vs = some a) : vs = enc a := by
  unfold dec at h
  split at h
  · cases h; rfl
  · cases h
theorem dr_ok (v : AV) (o : List AV) (b : Bool × (List (List Int)) × Int × (List Int)) (h : dr v o = some b) : emb b = (v, o) := by
  unfold dr at h
  split at h
  · cases h; rfl
  · cases h
noncomputable def ent (n : Nat) (R : List (List Int) → Int → List Int → Int → Int → Option (Bool × (List (List Int)) × Int × (List Int))) : Ent := { f := 49, ms := [.io, .io, .lend, .lend], α := (List (List Int)) × Int × (List Int) × Int × Int, β := Bool × (List (List Int)) × Int × (List Int), dec := dec, enc := enc, emb := emb, m := fun a => Gm.triple_system_try n R a.1 a.2.1 a.2.2.1 a.2.2.2.1 a.2.2.2.2, hdec := dec_ok }
theorem run (n : Nat) (R : List (List Int) → Int → List Int → Int → Int → Option (Bool × (List (List Int)) × Int × (List Int))) (a : (List (List Int)) × Int × (List Int) × Int × Int) : AEO (env n R) (answers (Bool × (List (List Int)) × Int × (List Int)) (used n R) (used n R)) (tab (Bool × (List (List Int)) × Int × (List Int)) n R) body (frameOf (enc a) 0) (bodyO (env n R) Try.f49.results.toList (enc a) dr) = (ent n R).m a := by kernel_rfl
theorem ok (n : Nat) (R : List (List Int) → Int → List Int → Int → Int → Option (Bool × (List (List Int)) × Int × (List Int))) (hl : EntsOK Try.prog gl (used n R)) : EntOK Try.prog gl (ent n R) :=
  fnO_sound (P := Try.prog) (e := ent n R) (fn := Try.f49) (body := body) (l := used n R) (te := te) (gl := gl) (n := ⟨8, 117⟩) (cut := [112]) (keep := keep) (T := tab (Bool × (List (List Int)) × Int × (List Int)) n R) (dr := dr) Try.func49 (by kernel_rfl) (by kernel_rfl) te_ok (by kernel_rfl) (by kernel_rfl) hl (show Cov _ (env n R) (tab (Bool × (List (List Int)) × Int × (List Int)) n R) body from ⟨trivial, ⟨⟨trivial, lp2_ok n R hl⟩, ⟨trivial, trivial⟩⟩⟩) dr_ok (fun a => ⟨rfl, rfl⟩) (run n R)
theorem all_ok (n : Nat) (R : List (List Int) → Int → List Int → Int → Int → Option (Bool × (List (List Int)) × Int × (List Int))) (hR : EntOK Try.prog gl (W_triple_system_grow.entR R)) : EntOK Try.prog gl (ent n R) := ok n R ⟨W_triple_lister_add.all_ok n, hR, trivial⟩
end W_triple_system_try
namespace W_triple_system_grow
noncomputable def body : Code := Try.f31.body.getD .skip
def keep : List (Nat × List Nat) := [(1, [0, 1, 2, 3]), (3, [0, 1, 2, 3])]
noncomputable def used (n : Nat) (R : List (List Int) → Int → List Int → Int → Int → Option (Bool × (List (List Int)) × Int × (List Int))) : List Ent := [W_triple_system_try.ent n R]
noncomputable def env (n : Nat) (R : List (List Int) → Int → List Int → Int → Int → Option (Bool × (List (List Int)) × Int × (List Int))) : Env := envOf te gl (used n R) ⟨2, 40⟩ [] keep
def F3 (c : (List (List Int)) × Int × (List Int) × Int) (s : Int) : Fr := [(0, .bx [.ow 41 (.rows c.1), .pv (.int .i64 c.2.1)]), (1, .ba (.ints .i64 c.2.2.1)), (2, .pv (.int .i64 c.2.2.2)), (3, .pv (.int .i64 s))]
def d3 : Fr → Option (((List (List Int)) × Int × (List Int) × Int) × (Int))
  | [(0, .bx [.ow 41 (.rows s_0_0), .pv (.int .i64 s_0_1)]), (1, .ba (.ints .i64 t1)), (2, .pv (.int .i64 p2)), (3, .pv (.int .i64 q3))] => some ((s_0_0, s_0_1, t1, p2), q3)
  | _ => none
def st3 {ρ : Type} (n : Nat) (R : List (List Int) → Int → List Int → Int → Int → Option (Bool × (List (List Int)) × Int × (List Int))) (c : (List (List Int)) × Int × (List Int) × Int) (Ko : Exit → Fr → Option ρ) (s : Int) (nx : Int → Option ρ) : Option ρ :=
  Gm.triple_system_grow_s3 n R c.1 c.2.1 c.2.2.1 c.2.2.2 s nx (fun (y0 : Bool) (y1 : List (List Int)) (y2 : Int) (y3 : List Int) => Ko .ret [(8, .pv (.bool y0)), (0, .bx [.ow 41 (.rows y1), .pv (.int .i64 y2)]), (1, .ba (.ints .i64 y3))]) (Ko (.exit 2) [(0, .bx [.ow 41 (.rows c.1), .pv (.int .i64 c.2.1)]), (1, .ba (.ints .i64 c.2.2.1)), (2, .pv (.int .i64 c.2.2.2))])
def F1 (c : (List (List Int)) × Int × (List Int)) (s : Int × Int) : Fr := [(0, .bx [.ow 41 (.rows c.1), .pv (.int .i64 c.2.1)]), (1, .ba (.ints .i64 c.2.2)), (2, .pv (.int .i64 s.1)), (3, .pv (.int .i64 s.2))]
def d1 : Fr → Option (((List (List Int)) × Int × (List Int)) × (Int × Int))
  | [(0, .bx [.ow 41 (.rows s_0_0), .pv (.int .i64 s_0_1)]), (1, .ba (.ints .i64 t1)), (2, .pv (.int .i64 p2)), (3, .pv (.int .i64 q3))] => some ((s_0_0, s_0_1, t1), (p2, q3))
  | _ => none
def st1 {ρ : Type} (n : Nat) (R : List (List Int) → Int → List Int → Int → Int → Option (Bool × (List (List Int)) × Int × (List Int))) (c : (List (List Int)) × Int × (List Int)) (Ko : Exit → Fr → Option ρ) (s : Int × Int) (nx : (Int × Int) → Option ρ) : Option ρ :=
  Gm.triple_system_grow_s1 n R c.1 c.2.1 c.2.2 s.1 s.2 (fun a0 a1 => nx (a0, a1)) (fun (y0 : Bool) (y1 : List (List Int)) (y2 : Int) (y3 : List Int) => Ko .ret [(8, .pv (.bool y0)), (0, .bx [.ow 41 (.rows y1), .pv (.int .i64 y2)]), (1, .ba (.ints .i64 y3))]) (Ko (.exit 0) [(0, .bx [.ow 41 (.rows c.1), .pv (.int .i64 c.2.1)]), (1, .ba (.ints .i64 c.2.2))])
noncomputable def tab (ρ : Type) (n : Nat) (R : List (List Int) → Int → List Int → Int → Int → Option (Bool × (List (List Int)) × Int × (List Int))) : Tab ρ := { live := [(0, [0, 1, 2, 3]), (1, [0, 1, 2, 3, 14]), (2, [0, 1, 2, 3]), (3, [0, 1, 2, 3, 24]), (4, [0, 1, 2, 3]), (5, [0, 1, 2, 3, 34]), (6, [0, 1, 8]), (7, [0, 1, 8])], xl := [(0, [0, 1]), (1, [0, 1, 2]), (2, [0, 1, 2]), (3, [0, 1, 2, 3])], rl := [0, 1, 8], fz := [], jp := [], lp := [(3, fun A Ko => bnd (d3 A) fun p => iterM (st3 n R p.1 Ko) n p.2), (1, fun A Ko => bnd (d1 A) fun p => iterM (st1 n R p.1 Ko) n p.2)] }
noncomputable def b3 : Code := (cL (cB (cB (c1 (c2 (cL (cB (c1 (c2 body)))))))))
theorem d3_ok (A : Fr) (c : (List (List Int)) × Int × (List Int) × Int) (s : Int) (h : d3 A = some (c, s)) : A = F3 c s := by
  unfold d3 at h
  split at h
  · cases h; rfl
  · cases h
theorem step3 (ρ : Type) (n : Nat) (R : List (List Int) → Int → List Int → Int → Int → Option (Bool × (List (List Int)) × Int × (List Int))) (c : (List (List Int)) × Int × (List Int) × Int) (Ko : Exit → Fr → Option ρ) (s : Int) (nx : ((List (List Int)) × Int × (List Int) × Int) → (Int) → Option ρ) :
    AEO (env n R) (answers ρ (used n R) (used n R)) (tab ρ n R) b3 (F3 c s) (thenO (fun A => bnd (d3 (restr (keepOf (env n R) b3) A)) fun p => nx p.1 p.2) Ko) = st3 n R c Ko s (nx c) := by kernel_rfl
theorem lp3_ok {ρ : Type} (n : Nat) (R : List (List Int) → Int → List Int → Int → Int → Option (Bool × (List (List Int)) × Int × (List Int))) (hl : EntsOK Try.prog gl (used n R)) : ∀ (A : Fr) (Ko : Exit → Fr → Option ρ) (r : ρ) (K : Exit → Fr → Prop), (bnd (d3 (restr (keepOf (env n R) b3) A)) fun p => iterM (st3 n R p.1 Ko) n p.2) = some r → (∀ e A, Ko e A = some r → K e A) → Gx.Sem Try.prog (env n R) (.loop b3) A K :=
  fun A Ko r K h hk => loop_cod (P := Try.prog) (E := env n R) (T := tab ρ n R) (fun _ _ _ h => answers_ok h) F3 d3 (st3 n R) d3_ok (show Cov _ (env n R) (tab ρ n R) b3 from ⟨⟨trivial, ⟨trivial, trivial⟩⟩, ⟨⟨trivial, ⟨⟨trivial, trivial⟩, trivial⟩⟩, trivial⟩⟩) (fun c Ko s nx => step3 ρ n R c Ko s nx) n A Ko r K h hk
noncomputable def b1 : Code := (cL (cB (c1 (c2 body))))
theorem d1_ok (A : Fr) (c : (List (List Int)) × Int × (List Int)) (s : Int × Int) (h : d1 A = some (c, s)) : A = F1 c s := by
  unfold d1 at h
  split at h
  · cases h; rfl
  · cases h
theorem step1 (ρ : Type) (n : Nat) (R : List (List Int) → Int → List Int → Int → Int → Option (Bool × (List (List Int)) × Int × (List Int))) (c : (List (List Int)) × Int × (List Int)) (Ko : Exit → Fr → Option ρ) (s : Int × Int) (nx : ((List (List Int)) × Int × (List Int)) → (Int × Int) → Option ρ) :
    AEO (env n R) (answers ρ (used n R) (used n R)) (tab ρ n R) b1 (F1 c s) (thenO (fun A => bnd (d1 (restr (keepOf (env n R) b1) A)) fun p => nx p.1 p.2) Ko) = st1 n R c Ko s (nx c) := by kernel_rfl
theorem lp1_ok {ρ : Type} (n : Nat) (R : List (List Int) → Int → List Int → Int → Int → Option (Bool × (List (List Int)) × Int × (List Int))) (hl : EntsOK Try.prog gl (used n R)) : ∀ (A : Fr) (Ko : Exit → Fr → Option ρ) (r : ρ) (K : Exit → Fr → Prop), (bnd (d1 (restr (keepOf (env n R) b1) A)) fun p => iterM (st1 n R p.1 Ko) n p.2) = some r → (∀ e A, Ko e A = some r → K e A) → Gx.Sem Try.prog (env n R) (.loop b1) A K :=
  fun A Ko r K h hk => loop_cod (P := Try.prog) (E := env n R) (T := tab ρ n R) (fun _ _ _ h => answers_ok h) F1 d1 (st1 n R) d1_ok (show Cov _ (env n R) (tab ρ n R) b1 from ⟨⟨trivial, ⟨trivial, trivial⟩⟩, ⟨lp3_ok n R hl, trivial⟩⟩) (fun c Ko s nx => step1 ρ n R c Ko s nx) n A Ko r K h hk
noncomputable def ent (n : Nat) (R : List (List Int) → Int → List Int → Int → Int → Option (Bool × (List (List Int)) × Int × (List Int))) : Ent := entR (Gm.triple_system_grow_b n R)
theorem run (n : Nat) (R : List (List Int) → Int → List Int → Int → Int → Option (Bool × (List (List Int)) × Int × (List Int))) (a : (List (List Int)) × Int × (List Int) × Int × Int) : AEO (env n R) (answers (Bool × (List (List Int)) × Int × (List Int)) (used n R) (used n R)) (tab (Bool × (List (List Int)) × Int × (List Int)) n R) body (frameOf (enc a) 0) (bodyO (env n R) Try.f31.results.toList (enc a) dr) = (ent n R).m a := by kernel_rfl
theorem ok (n : Nat) (R : List (List Int) → Int → List Int → Int → Int → Option (Bool × (List (List Int)) × Int × (List Int))) (hl : EntsOK Try.prog gl (used n R)) : EntOK Try.prog gl (ent n R) :=
  fnO_sound (P := Try.prog) (e := ent n R) (fn := Try.f31) (body := body) (l := used n R) (te := te) (gl := gl) (n := ⟨2, 40⟩) (cut := []) (keep := keep) (T := tab (Bool × (List (List Int)) × Int × (List Int)) n R) (dr := dr) Try.func31 (by kernel_rfl) (by kernel_rfl) te_ok (by kernel_rfl) (by kernel_rfl) hl (show Cov _ (env n R) (tab (Bool × (List (List Int)) × Int × (List Int)) n R) body from ⟨trivial, ⟨lp1_ok n R hl, ⟨trivial, trivial⟩⟩⟩) dr_ok (fun a => ⟨rfl, rfl⟩) (run n R)
theorem turn (n : Nat) (R : List (List Int) → Int → List Int → Int → Int → Option (Bool × (List (List Int)) × Int × (List Int))) (hR : EntOK Try.prog gl (entR R)) : EntOK Try.prog gl (ent n R) := ok n R ⟨W_triple_system_try.all_ok n R hR, trivial⟩
theorem rec_ok (n : Nat) : ∀ k, EntOK Try.prog gl (entR (Gm.triple_system_grow_r n k))
  | 0 => EntOK_none (by kernel_rfl) (fun _ => rfl)
  | k + 1 => turn n _ (rec_ok n k)
noncomputable def top (n : Nat) : Ent := entR (Gm.triple_system_grow n)
theorem top_ok (n : Nat) : EntOK Try.prog gl (top n) := rec_ok n n
end W_triple_system_grow
namespace W_cmp_isNaN_int
noncomputable def body : Code := Try.f83.body.getD .skip
def keep : List (Nat × List Nat) := []
noncomputable def used (_n : Nat) : List Ent := []
noncomputable def env (n : Nat) : Env := envOf te gl (used n) ⟨2, 6⟩ [] keep
noncomputable def tab (ρ : Type) (_n : Nat) : Tab ρ := { live := [(0, [0]), (1, [2])], xl := [], rl := [2], fz := [], jp := [], lp := [] }
def enc (a : Int) : List AV := [.pv (.int .i64 a)]
def dec : List AV → Option (Int)
  | [.pv (.int .i64 x0)] => some x0
  | _ => none
def emb (b : Bool) : AV × List AV := (.pv (.bool b), [])
def dr : AV → List AV → Option (Bool)
  | .pv (.bool r0), [] => some r0
  | _, _ => none
theorem dec_ok (vs : List AV) (a : Int) (h : dec vs = some a) : vs = enc a := by
  unfold dec at h
  split at h
  · cases h; rfl
  · cases h
theorem dr_ok (v : AV) (o : List AV) (b : Bool) (h : dr v o = some b) : emb b = (v, o) := by
  unfold dr at h
  split at h
  · cases h; rfl
  · cases h
noncomputable def ent (n : Nat) : Ent := { f := 83, ms := [.lend], α := Int, β := Bool, dec := dec, enc := enc, emb := emb, m := fun a => Gm.cmp_isNaN_int n a, hdec := dec_ok }
theorem run (n : Nat) (a : Int) : AEO (env n) (answers (Bool) (used n) (used n)) (tab (Bool) n) body (frameOf (enc a) 0) (bodyO (env n) Try.f83.results.toList (enc a) dr) = (ent n).m a := by kernel_rfl
theorem ok (n : Nat) (hl : EntsOK Try.prog gl (used n)) : EntOK Try.prog gl (ent n) :=
  fnO_sound (P := Try.prog) (e := ent n) (fn := Try.f83) (body := body) (l := used n) (te := te) (gl := gl) (n := ⟨2, 6⟩) (cut := []) (keep := keep) (T := tab (Bool) n) (dr := dr) Try.func83 (by kernel_rfl) (by kernel_rfl) te_ok (by kernel_rfl) (by kernel_rfl) hl (show Cov _ (env n) (tab (Bool) n) body from ⟨trivial, ⟨trivial, trivial⟩⟩) dr_ok (fun a => ⟨rfl, rfl⟩) (run n)
theorem all_ok (n : Nat) : EntOK Try.prog gl (ent n) := ok n trivial
end W_cmp_isNaN_int
namespace W_cmp_Compare_int
noncomputable def body : Code := Try.f63.body.getD .skip
def keep : List (Nat × List Nat) := []
noncomputable def used (n : Nat) : List Ent := [W_cmp_isNaN_int.ent n]
noncomputable def env (n : Nat) : Env := envOf te gl (used n) ⟨4, 20⟩ [] keep
noncomputable def tab (ρ : Type) (_n : Nat) : Tab ρ := { live := [(0, [0, 1]), (1, [0, 1, 5]), (2, [0, 1, 5, 6]), (3, [0, 1, 6, 11]), (4, [12]), (5, [4]), (6, [4]), (7, [0, 1, 13]), (8, [4]), (9, [0, 1, 16]), (10, [4]), (11, [19]), (12, [4]), (13, [4])], xl := [], rl := [4], fz := [], jp := [], lp := [] }
def enc (a : Int × Int) : List AV := [.pv (.int .i64 a.1), .pv (.int .i64 a.2)]
def dec : List AV → Option (Int × Int)
  | [.pv (.int .i64 x0), .pv (.int .i64 y1)] => some (x0, y1)
  | _ => none
def emb (b : Int) : AV × List AV := (.pv (.int .i64 b), [])
def dr : AV → List AV → Option (Int)
  | .pv (.int .i64 r0), [] => some r0
  | _, _ => none
theorem dec_ok (vs : List AV) (a : Int × Int) (h : dec vs = some a) : vs = enc a := by
  unfold dec at h
  split at h
  · cases h; rfl
  · cases h
theorem dr_ok (v : AV) (o : List AV) (b : Int) (h : dr v o = some b) : emb b = (v, o) := by
  unfold dr at h
  split at h
  · cases h; rfl
  · cases h
noncomputable def ent (n : Nat) : Ent := { f := 63, ms := [.lend, .lend], α := Int × Int, β := Int, dec := dec, enc := enc, emb := emb, m := fun a => Gm.cmp_Compare_int n a.1 a.2, hdec := dec_ok }
theorem run (n : Nat) (a : Int × Int) : AEO (env n) (answers (Int) (used n) (used n)) (tab (Int) n) body (frameOf (enc a) 0) (bodyO (env n) Try.f63.results.toList (enc a) dr) = (ent n).m a := by kernel_rfl
theorem ok (n : Nat) (hl : EntsOK Try.prog gl (used n)) : EntOK Try.prog gl (ent n) :=
  fnO_sound (P := Try.prog) (e := ent n) (fn := Try.f63) (body := body) (l := used n) (te := te) (gl := gl) (n := ⟨4, 20⟩) (cut := []) (keep := keep) (T := tab (Int) n) (dr := dr) Try.func63 (by kernel_rfl) (by kernel_rfl) te_ok (by kernel_rfl) (by kernel_rfl) hl (show Cov _ (env n) (tab (Int) n) body from ⟨trivial, ⟨trivial, ⟨trivial, ⟨⟨trivial, ⟨⟨⟨trivial, ⟨⟨trivial, trivial⟩, trivial⟩⟩, ⟨trivial, trivial⟩⟩, trivial⟩⟩, ⟨⟨trivial, ⟨⟨trivial, trivial⟩, trivial⟩⟩, ⟨⟨trivial, ⟨⟨trivial, trivial⟩, trivial⟩⟩, ⟨⟨trivial, ⟨⟨trivial, trivial⟩, trivial⟩⟩, ⟨trivial, trivial⟩⟩⟩⟩⟩⟩⟩⟩) dr_ok (fun a => ⟨rfl, rfl⟩) (run n)
theorem all_ok (n : Nat) : EntOK Try.prog gl (ent n) := ok n ⟨W_cmp_isNaN_int.all_ok n, trivial⟩
end W_cmp_Compare_int
namespace W_slices_Compare_intint
noncomputable def body : Code := Try.f52.body.getD .skip
def keep : List (Nat × List Nat) := [(2, [0, 1, 9, 10, 11])]
noncomputable def used (n : Nat) : List Ent := [W_cmp_Compare_int.ent n]
noncomputable def env (n : Nat) : Env := envOf te gl (used n) ⟨4, 36⟩ [] keep
def F2 (c : (List Int) × (List Int) × (List Int) × Int) (s : Int) : Fr := [(0, .ls (.ints .i64 c.1)), (1, .ls (.ints .i64 c.2.1)), (9, .ls (.ints .i64 c.2.2.1)), (10, .pv (.int .i64 c.2.2.2)), (11, .pv (.int .i64 s))]
def d2 : Fr → Option (((List Int) × (List Int) × (List Int) × Int) × (Int))
  | [(0, .ls (.ints .i64 s10)), (1, .ls (.ints .i64 s21)), (9, .ls (.ints .i64 t9)), (10, .pv (.int .i64 t10)), (11, .pv (.int .i64 t11))] => some ((s10, s21, t9, t10), t11)
  | _ => none
def st2 {ρ : Type} (n : Nat) (c : (List Int) × (List Int) × (List Int) × Int) (Ko : Exit → Fr → Option ρ) (s : Int) (nx : Int → Option ρ) : Option ρ :=
  Gm.slices_Compare_intint_s2 n c.1 c.2.1 c.2.2.1 c.2.2.2 s nx (Ko .ret [(4, .pv (.int .i64 1))]) (fun (y0 : Int) => Ko .ret [(4, .pv (.int .i64 y0))]) (Ko (.exit 0) [(0, .ls (.ints .i64 c.1)), (1, .ls (.ints .i64 c.2.1))])
noncomputable def tab (ρ : Type) (n : Nat) : Tab ρ := { live := [(0, [0, 1]), (1, [0, 1, 9, 10, 11]), (2, [0, 1, 9, 10, 11, 12]), (3, [0, 1, 5, 6, 9, 10, 11]), (4, [0, 1, 5, 6, 9, 10, 11, 19]), (5, [4]), (6, [0, 1, 6, 7, 9, 10, 11]), (7, [0, 1, 8, 9, 10, 11]), (8, [0, 1, 8, 9, 10, 11, 28]), (9, [4]), (10, [0, 1, 9, 10, 11]), (11, [35]), (12, [4]), (13, [4])], xl := [(0, [0, 1]), (1, [0, 1, 9, 10, 11])], rl := [4], fz := [], jp := [], lp := [(2, fun A Ko => bnd (d2 A) fun p => iterM (st2 n p.1 Ko) n p.2)] }
noncomputable def b2 : Code := (cL (cB (c2 (c1 (c2 body)))))
theorem d2_ok (A : Fr) (c : (List Int) × (List Int) × (List Int) × Int) (s : Int) (h : d2 A = some (c, s)) : A = F2 c s := by
  unfold d2 at h
  split at h
  · cases h; rfl
  · cases h
theorem step2 (ρ : Type) (n : Nat) (c : (List Int) × (List Int) × (List Int) × Int) (Ko : Exit → Fr → Option ρ) (s : Int) (nx : ((List Int) × (List Int) × (List Int) × Int) → (Int) → Option ρ) :
    AEO (env n) (answers ρ (used n) (used n)) (tab ρ n) b2 (F2 c s) (thenO (fun A => bnd (d2 (restr (keepOf (env n) b2) A)) fun p => nx p.1 p.2) Ko) = st2 n c Ko s (nx c) := by kernel_rfl
theorem lp2_ok {ρ : Type} (n : Nat) (hl : EntsOK Try.prog gl (used n)) : ∀ (A : Fr) (Ko : Exit → Fr → Option ρ) (r : ρ) (K : Exit → Fr → Prop), (bnd (d2 (restr (keepOf (env n) b2) A)) fun p => iterM (st2 n p.1 Ko) n p.2) = some r → (∀ e A, Ko e A = some r → K e A) → Gx.Sem Try.prog (env n) (.loop b2) A K :=
  fun A Ko r K h hk => loop_cod (P := Try.prog) (E := env n) (T := tab ρ n) (fun _ _ _ h => answers_ok h) F2 d2 (st2 n) d2_ok (show Cov _ (env n) (tab ρ n) b2 from ⟨trivial, ⟨⟨trivial, trivial⟩, ⟨⟨trivial, ⟨⟨trivial, ⟨⟨trivial, trivial⟩, trivial⟩⟩, ⟨trivial, ⟨trivial, ⟨trivial, ⟨⟨trivial, trivial⟩, trivial⟩⟩⟩⟩⟩⟩, trivial⟩⟩⟩) (fun c Ko s nx => step2 ρ n c Ko s nx) n A Ko r K h hk
def enc (a : (List Int) × (List Int)) : List AV := [.ls (.ints .i64 a.1), .ls (.ints .i64 a.2)]
def dec : List AV → Option ((List Int) × (List Int))
  | [.ls (.ints .i64 s10), .ls (.ints .i64 s21)] => some (s10, s21)
  | _ => none
def emb (b : Int) : AV × List AV := (.pv (.int .i64 b), [])
def dr : AV → List AV → Option (Int)
  | .pv (.int .i64 r0), [] => some r0
  | _, _ => none
theorem dec_ok (vs : List AV) (a : (List Int) × (List Int)) (h : dec vs = some a) : vs = enc a := by
  unfold dec at h
  split at h
  · cases h; rfl
  · cases h
theorem dr_ok (v : AV) (o : List AV) (b : Int) (h : dr v o = some b) : emb b = (v, o) := by
  unfold dr at h
  split at h
  · cases h; rfl
  · cases h
noncomputable def ent (n : Nat) : Ent := { f := 52, ms := [.lend, .lend], α := (List Int) × (List Int), β := Int, dec := dec, enc := enc, emb := emb, m := fun a => Gm.slices_Compare_intint n a.1 a.2, hdec := dec_ok }
theorem run (n : Nat) (a : (List Int) × (List Int)) : AEO (env n) (answers (Int) (used n) (used n)) (tab (Int) n) body (frameOf (enc a) 0) (bodyO (env n) Try.f52.results.toList (enc a) dr) = (ent n).m a := by kernel_rfl
theorem ok (n : Nat) (hl : EntsOK Try.prog gl (used n)) : EntOK Try.prog gl (ent n) :=
  fnO_sound (P := Try.prog) (e := ent n) (fn := Try.f52) (body := body) (l := used n) (te := te) (gl := gl) (n := ⟨4, 36⟩) (cut := []) (keep := keep) (T := tab (Int) n) (dr := dr) Try.func52 (by kernel_rfl) (by kernel_rfl) te_ok (by kernel_rfl) (by kernel_rfl) hl (show Cov _ (env n) (tab (Int) n) body from ⟨trivial, ⟨⟨trivial, lp2_ok n hl⟩, ⟨⟨trivial, ⟨⟨trivial, trivial⟩, trivial⟩⟩, ⟨trivial, trivial⟩⟩⟩⟩) dr_ok (fun a => ⟨rfl, rfl⟩) (run n)
theorem all_ok (n : Nat) : EntOK Try.prog gl (ent n) := ok n ⟨W_cmp_Compare_int.all_ok n, trivial⟩
end W_slices_Compare_intint
namespace W_triple_system_design_1
noncomputable def body : Code := Try.f51.body.getD .skip
def keep : List (Nat × List Nat) := []
noncomputable def used (n : Nat) : List Ent := [W_slices_Compare_intint.ent n]
noncomputable def env (n : Nat) : Env := envOf te gl (used n) ⟨4, 8⟩ [] keep
noncomputable def tab (ρ : Type) (_n : Nat) : Tab ρ := { live := [(0, [0, 1]), (1, [4])], xl := [], rl := [4], fz := [], jp := [], lp := [] }
def enc (a : (List Int) × (List Int)) : List AV := [.ls (.ints .i64 a.1), .ls (.ints .i64 a.2)]
def dec : List AV → Option ((List Int) × (List Int))
  | [.ls (.ints .i64 a0), .ls (.ints .i64 b1)] => some (a0, b1)
  | _ => none
def emb (b : Int) : AV × List AV := (.pv (.int .i64 b), [])
def dr : AV → List AV → Option (Int)
  | .pv (.int .i64 r0), [] => some r0
  | _, _ => none
theorem dec_ok (vs : List AV) (a : (List Int) × (List Int)) (h : dec vs = some a) : vs = enc a := by
  unfold dec at h
  split at h
  · cases h; rfl
  · cases h
theorem dr_ok (v : AV) (o : List AV) (b : Int) (h : dr v o = some b) : emb b = (v, o) := by
  unfold dr at h
  split at h
  · cases h; rfl
  · cases h
noncomputable def ent (n : Nat) : Ent := { f := 51, ms := [.lend, .lend], α := (List Int) × (List Int), β := Int, dec := dec, enc := enc, emb := emb, m := fun a => Gm.triple_system_design_1 n a.1 a.2, hdec := dec_ok }
theorem run (n : Nat) (a : (List Int) × (List Int)) : AEO (env n) (answers (Int) (used n) (used n)) (tab (Int) n) body (frameOf (enc a) 0) (bodyO (env n) Try.f51.results.toList (enc a) dr) = (ent n).m a := by kernel_rfl
theorem ok (n : Nat) (hl : EntsOK Try.prog gl (used n)) : EntOK Try.prog gl (ent n) :=
  fnO_sound (P := Try.prog) (e := ent n) (fn := Try.f51) (body := body) (l := used n) (te := te) (gl := gl) (n := ⟨4, 8⟩) (cut := []) (keep := keep) (T := tab (Int) n) (dr := dr) Try.func51 (by kernel_rfl) (by kernel_rfl) te_ok (by kernel_rfl) (by kernel_rfl) hl (show Cov _ (env n) (tab (Int) n) body from ⟨trivial, ⟨trivial, trivial⟩⟩) dr_ok (fun a => ⟨rfl, rfl⟩) (run n)
theorem all_ok (n : Nat) : EntOK Try.prog gl (ent n) := ok n ⟨W_slices_Compare_intint.all_ok n, trivial⟩
end W_triple_system_design_1
namespace W_slices_SortFunc__triple_system_design_1
def ent (n : Nat) : Ent := sortLE 50 41 51 n
theorem all_ok (n : Nat) : EntOK Try.prog gl (ent n) := sortL_ok (g := 51) (n := n) (ce := W_triple_system_design_1.ent n) (by kernel_rfl) (fun α _ enc h1 cf h2 cb blk off cap d w eg h3 h4 h5 h6 => Any.slices_SortFunc Try.sortL enc h1 cf h2 51 cb blk off cap d w eg h3 h4 h5 h6) (fun p cap fv w => AnyF.slices_SortFunc_none (P := Try.prog) (ρ := Try.sortL_ren) { Try.sortL with } p cap fv w) (W_triple_system_design_1.all_ok n) rfl (fun a b ha hb => ⟨(a, b), cmpL a b, rfl, Law.triple_system_design_1_eq n a b ha hb, rfl⟩)
end W_slices_SortFunc__triple_system_design_1
namespace W_triple_system_design
noncomputable def body : Code := Try.f32.body.getD .skip
def keep : List (Nat × List Nat) := []
noncomputable def used (n : Nat) : List Ent := [W_slices_SortFunc__triple_system_design_1.ent n]
noncomputable def env (n : Nat) : Env := envOf te gl (used n) ⟨2, 19⟩ [] keep
noncomputable def tab (ρ : Type) (_n : Nat) : Tab ρ := { live := [(0, [0, 2]), (1, [0, 2]), (2, [0, 2])], xl := [], rl := [0, 2], fz := [], jp := [], lp := [] }
def enc (a : (List (List Int)) × Int) : List AV := [.bx [.ow 41 (.rows a.1), .pv (.int .i64 a.2)]]
def dec : List AV → Option ((List (List Int)) × Int)
  | [.bx [.ow 41 (.rows s_0_0), .pv (.int .i64 s_0_1)]] => some (s_0_0, s_0_1)
  | _ => none
def emb (b : Int × (List (List Int)) × (List (List Int)) × Int) : AV × List AV := (.ag [.pv (.int .i64 b.1), .sl (.rows b.2.1)], [.bx [.sl (.rows b.2.2.1), .pv (.int .i64 b.2.2.2)]])
def dr : AV → List AV → Option (Int × (List (List Int)) × (List (List Int)) × Int)
  | .ag [.pv (.int .i64 r0), .sl (.rows r1)], [.bx [.sl (.rows r2), .pv (.int .i64 r3)]] => some (r0, r1, r2, r3)
  | _, _ => none
theorem dec_ok (vs : List AV) (a : (List (List Int)) × Int) (h : dec vs = some a) : vs = enc a := by
  unfold dec at h
  split at h
  · cases h; rfl
  · cases h
theorem dr_ok (v : AV) (o : List AV) (b : Int × (List (List Int)) × (List (List Int)) × Int) (h : dr v o = some b) : emb b = (v, o) := by
  unfold dr at h
  split at h
  · cases h; rfl
  · cases h
noncomputable def ent (n : Nat) : Ent := { f := 32, ms := [.io], α := (List (List Int)) × Int, β := Int × (List (List Int)) × (List (List Int)) × Int, dec := dec, enc := enc, emb := emb, m := fun a => Gm.triple_system_design n a.1 a.2, hdec := dec_ok }
theorem run (n : Nat) (a : (List (List Int)) × Int) : AEO (env n) (answers (Int × (List (List Int)) × (List (List Int)) × Int) (used n) (used n)) (tab (Int × (List (List Int)) × (List (List Int)) × Int) n) body (frameOf (enc a) 0) (bodyO (env n) Try.f32.results.toList (enc a) dr) = (ent n).m a := by kernel_rfl
theorem ok (n : Nat) (hl : EntsOK Try.prog gl (used n)) : EntOK Try.prog gl (ent n) :=
  fnO_sound (P := Try.prog) (e := ent n) (fn := Try.f32) (body := body) (l := used n) (te := te) (gl := gl) (n := ⟨2, 19⟩) (cut := []) (keep := keep) (T := tab (Int × (List (List Int)) × (List (List Int)) × Int) n) (dr := dr) Try.func32 (by kernel_rfl) (by kernel_rfl) te_ok (by kernel_rfl) (by kernel_rfl) hl (show Cov _ (env n) (tab (Int × (List (List Int)) × (List (List Int)) × Int) n) body from ⟨trivial, ⟨trivial, ⟨trivial, trivial⟩⟩⟩) dr_ok (fun a => ⟨rfl, rfl⟩) (run n)
theorem all_ok (n : Nat) : EntOK Try.prog gl (ent n) := ok n ⟨W_slices_SortFunc__triple_system_design_1.all_ok n, trivial⟩
end W_triple_system_design
namespace W_triple_Grow
noncomputable def body : Code := Try.f11.body.getD .skip
def keep : List (Nat × List Nat) := [(7, [2, 4, 6, 27, 28, 29])]
noncomputable def used (n : Nat) : List Ent := [W_slices_ContainsFunc_intint__triple_Grow_1.ent n, W_triple_lister_add.ent n, W_triple_third.ent n, W_triple_system_grow.top n, W_triple_system_design.ent n]
noncomputable def env (n : Nat) : Env := envOf te gl (used n) ⟨2, 91⟩ [] keep
def F7 (c : Int × Int × (List (List Int)) × (List (List Int)) × Int) (s : (List (List Int)) × Int × Int) : Fr := [(2, .bx [.pv (.int .i64 c.1)]), (4, .bx [.pv (.int .i64 c.2.1), .ow 41 (.rows c.2.2.1)]), (6, .bx [.ow 41 (.rows s.1), .pv (.int .i64 s.2.1)]), (27, .ls (.rows c.2.2.2.1)), (28, .pv (.int .i64 c.2.2.2.2)), (29, .pv (.int .i64 s.2.2))]
def d7 : Fr → Option ((Int × Int × (List (List Int)) × (List (List Int)) × Int) × ((List (List Int)) × Int × Int))
  | [(2, .bx [.pv (.int .i64 t2)]), (4, .bx [.pv (.int .i64 t4_0), .ow 41 (.rows t4_1)]), (6, .bx [.ow 41 (.rows t6_0), .pv (.int .i64 t6_1)]), (27, .ls (.rows t27)), (28, .pv (.int .i64 t28)), (29, .pv (.int .i64 t29))] => some ((t2, t4_0, t4_1, t27, t28), (t6_0, t6_1, t29))
  | _ => none
def st7 {ρ : Type} (n : Nat) (c : Int × Int × (List (List Int)) × (List (List Int)) × Int) (Ko : Exit → Fr → Option ρ) (s : (List (List Int)) × Int × Int) (nx : ((List (List Int)) × Int × Int) → Option ρ) : Option ρ :=
  Gm.triple_Grow_s7 n c.1 c.2.1 c.2.2.1 c.2.2.2.1 c.2.2.2.2 s.1 s.2.1 s.2.2 (fun a0 a1 a2 => nx (a0, a1, a2)) (fun (y0 : List (List Int)) => Ko .ret [(5, .pv (.int .i64 1)), (4, .bx [.pv (.int .i64 0), .nl 41 (.rows y0)])]) (fun (y0 : List (List Int)) => Ko .ret [(5, .pv (.int .i64 2)), (4, .bx [.pv (.int .i64 0), .nl 41 (.rows y0)])]) (fun (y0 : List (List Int)) (y1 : Int) => Ko (.exit 1) [(4, .bx [.pv (.int .i64 c.2.1), .ow 41 (.rows c.2.2.1)]), (6, .bx [.ow 41 (.rows y0), .pv (.int .i64 y1)])])
noncomputable def tab (ρ : Type) (n : Nat) : Tab ρ := { live := [(0, [1, 2, 4]), (1, [1, 2, 4, 11]), (2, [4, 5]), (3, [1, 2, 4, 19]), (4, [4, 5]), (5, [1, 2, 4, 6]), (6, [2, 4, 6, 27, 28, 29]), (7, [2, 4, 6, 27, 28, 29, 30]), (8, [2, 4, 6, 8, 27, 28, 29]), (9, [2, 4, 6, 8, 27, 28, 29, 35]), (10, [4, 5]), (11, [2, 4, 6, 8, 27, 28, 29, 57]), (12, [4, 5]), (13, [2, 4, 6, 27, 28, 29]), (14, [2, 4, 6, 27, 28, 29]), (15, [4, 6, 9, 10]), (16, [4, 6, 9, 83]), (17, [4, 5]), (18, [4, 6, 87]), (19, [4, 5]), (20, [4, 5])], xl := [(0, [1, 2, 4]), (1, [4, 6]), (2, [2, 4, 6, 27, 28, 29])], rl := [4, 5], fz := [], jp := [], lp := [(7, fun A Ko => bnd (d7 A) fun p => iterM (st7 n p.1 Ko) n p.2)] }
noncomputable def b7 : Code := (cL (cB (c2 (c1 (c2 (c2 (c2 body)))))))
theorem d7_ok (A : Fr) (c : Int × Int × (List (List Int)) × (List (List Int)) × Int) (s : (List (List Int)) × Int × Int) (h : d7 A = some (c, s)) : A = F7 c s := by
  unfold d7 at h
  split at h
  · cases h; rfl
  · cases h
theorem step7 (ρ : Type) (n : Nat) (c : Int × Int × (List (List Int)) × (List (List Int)) × Int) (Ko : Exit → Fr → Option ρ) (s : (List (List Int)) × Int × Int) (nx : (Int × Int × (List (List Int)) × (List (List Int)) × Int) → ((List (List Int)) × Int × Int) → Option ρ) :
    AEO (env n) (answers ρ (used n) (used n)) (tab ρ n) b7 (F7 c s) (thenO (fun A => bnd (d7 (restr (keepOf (env n) b7) A)) fun p => nx p.1 p.2) Ko) = st7 n c Ko s (nx c) := by kernel_rfl
theorem lp7_ok {ρ : Type} (n : Nat) (hl : EntsOK Try.prog gl (used n)) : ∀ (A : Fr) (Ko : Exit → Fr → Option ρ) (r : ρ) (K : Exit → Fr → Prop), (bnd (d7 (restr (keepOf (env n) b7) A)) fun p => iterM (st7 n p.1 Ko) n p.2) = some r → (∀ e A, Ko e A = some r → K e A) → Gx.Sem Try.prog (env n) (.loop b7) A K :=
  fun A Ko r K h hk => loop_cod (P := Try.prog) (E := env n) (T := tab ρ n) (fun _ _ _ h => answers_ok h) F7 d7 (st7 n) d7_ok (show Cov _ (env n) (tab ρ n) b7 from ⟨trivial, ⟨⟨trivial, trivial⟩, ⟨⟨trivial, ⟨⟨trivial, ⟨⟨trivial, trivial⟩, trivial⟩⟩, ⟨⟨trivial, ⟨⟨trivial, trivial⟩, trivial⟩⟩, trivial⟩⟩⟩, trivial⟩⟩⟩) (fun c Ko s nx => step7 ρ n c Ko s nx) n A Ko r K h hk
def enc (a : Int × (List (List Int))) : List AV := [.pv (.int .i64 a.1), .ls (.rows a.2)]
def dec : List AV → Option (Int × (List (List Int)))
  | [.pv (.int .i64 toArray0), .ls (.rows t1)] => some (toArray0, t1)
  | _ => none
def emb (b : Int × (List (List Int)) × Int) : AV × List AV := (.tp [.ag [.pv (.int .i64 b.1), .sl (.rows b.2.1)], .pv (.int .i64 b.2.2)], [])
def dr : AV → List AV → Option (Int × (List (List Int)) × Int)
  | .tp [.ag [.pv (.int .i64 r0), .sl (.rows r1)], .pv (.int .i64 r2)], [] => some (r0, r1, r2)
  | _, _ => none
theorem dec_ok (vs : List AV) (a : Int × (List (List Int))) (h : dec vs = some a) : vs = enc a := by
  unfold dec at h
  split at h
  · cases h; rfl
  · cases h
theorem dr_ok (v : AV) (o : List AV) (b : Int × (List (List Int)) × Int) (h : dr v o = some b) : emb b = (v, o) := by
  unfold dr at h
  split at h
  · cases h; rfl
  · cases h
noncomputable def ent (n : Nat) : Ent := { f := 11, ms := [.lend, .lend], α := Int × (List (List Int)), β := Int × (List (List Int)) × Int, dec := dec, enc := enc, emb := emb, m := fun a => Gm.triple_Grow n a.1 a.2, hdec := dec_ok }
theorem run (n : Nat) (a : Int × (List (List Int))) : AEO (env n) (answers (Int × (List (List Int)) × Int) (used n) (used n)) (tab (Int × (List (List Int)) × Int) n) body (frameOf (enc a) 0) (bodyO (env n) Try.f11.results.toList (enc a) dr) = (ent n).m a := by kernel_rfl
theorem ok (n : Nat) (hl : EntsOK Try.prog gl (used n)) : EntOK Try.prog gl (ent n) :=
  fnO_sound (P := Try.prog) (e := ent n) (fn := Try.f11) (body := body) (l := used n) (te := te) (gl := gl) (n := ⟨2, 91⟩) (cut := []) (keep := keep) (T := tab (Int × (List (List Int)) × Int) n) (dr := dr) Try.func11 (by kernel_rfl) (by kernel_rfl) te_ok (by kernel_rfl) (by kernel_rfl) hl (show Cov _ (env n) (tab (Int × (List (List Int)) × Int) n) body from ⟨trivial, ⟨⟨trivial, ⟨⟨trivial, trivial⟩, ⟨trivial, ⟨⟨trivial, trivial⟩, trivial⟩⟩⟩⟩, ⟨trivial, ⟨⟨trivial, lp7_ok n hl⟩, ⟨trivial, ⟨⟨trivial, ⟨⟨trivial, trivial⟩, trivial⟩⟩, ⟨⟨trivial, ⟨⟨trivial, trivial⟩, trivial⟩⟩, ⟨trivial, trivial⟩⟩⟩⟩⟩⟩⟩⟩) dr_ok (fun a => ⟨rfl, rfl⟩) (run n)
theorem all_ok (n : Nat) : EntOK Try.prog gl (ent n) := ok n ⟨W_slices_ContainsFunc_intint__triple_Grow_1.all_ok n, W_triple_lister_add.all_ok n, W_triple_third.all_ok n, W_triple_system_grow.top_ok n, W_triple_system_design.all_ok n, trivial⟩
end W_triple_Grow
namespace W_ref1_Ints
noncomputable def body : Code := Try.f53.body.getD .skip
def keep : List (Nat × List Nat) := [(4, [0, 1, 5])]
noncomputable def used (_n : Nat) : List Ent := []
noncomputable def env (n : Nat) : Env := envOf te gl (used n) ⟨4, 26⟩ [] keep
def F4 (c : (List Int) × (List Int)) (s : Int) : Fr := [(0, .ls (.ints .i64 c.1)), (1, .ls (.ints .i64 c.2)), (5, .pv (.int .i64 s))]
def d4 : Fr → Option (((List Int) × (List Int)) × (Int))
  | [(0, .ls (.ints .i64 a0)), (1, .ls (.ints .i64 b1)), (5, .pv (.int .i64 i5))] => some ((a0, b1), i5)
  | _ => none
def st4 {ρ : Type} (n : Nat) (c : (List Int) × (List Int)) (Ko : Exit → Fr → Option ρ) (s : Int) (nx : Int → Option ρ) : Option ρ :=
  Gm.ref1_Ints_s4 n c.1 c.2 s nx (Ko .ret [(4, .pv (.bool false))]) (Ko (.exit 0) [])
noncomputable def tab (ρ : Type) (n : Nat) : Tab ρ := { live := [(0, [0, 1]), (1, [0, 1, 10]), (2, [4]), (3, [0, 1, 5]), (4, [0, 1, 5, 14]), (5, [0, 1, 5]), (6, [0, 1, 5, 25]), (7, [4]), (8, [4])], xl := [(0, []), (1, [0, 1, 5])], rl := [4], fz := [], jp := [], lp := [(4, fun A Ko => bnd (d4 A) fun p => iterM (st4 n p.1 Ko) n p.2)] }
noncomputable def b4 : Code := (cL (cB (c2 (c1 (c2 (c2 body))))))
theorem d4_ok (A : Fr) (c : (List Int) × (List Int)) (s : Int) (h : d4 A = some (c, s)) : A = F4 c s := by
  unfold d4 at h
  split at h
  · cases h; rfl
  · cases h
theorem step4 (ρ : Type) (n : Nat) (c : (List Int) × (List Int)) (Ko : Exit → Fr → Option ρ) (s : Int) (nx : ((List Int) × (List Int)) → (Int) → Option ρ) :
    AEO (env n) (answers ρ (used n) (used n)) (tab ρ n) b4 (F4 c s) (thenO (fun A => bnd (d4 (restr (keepOf (env n) b4) A)) fun p => nx p.1 p.2) Ko) = st4 n c Ko s (nx c) := by kernel_rfl
theorem lp4_ok {ρ : Type} (n : Nat) (hl : EntsOK Try.prog gl (used n)) : ∀ (A : Fr) (Ko : Exit → Fr → Option ρ) (r : ρ) (K : Exit → Fr → Prop), (bnd (d4 (restr (keepOf (env n) b4) A)) fun p => iterM (st4 n p.1 Ko) n p.2) = some r → (∀ e A, Ko e A = some r → K e A) → Gx.Sem Try.prog (env n) (.loop b4) A K :=
  fun A Ko r K h hk => loop_cod (P := Try.prog) (E := env n) (T := tab ρ n) (fun _ _ _ h => answers_ok h) F4 d4 (st4 n) d4_ok (show Cov _ (env n) (tab ρ n) b4 from ⟨⟨trivial, ⟨trivial, trivial⟩⟩, ⟨⟨trivial, ⟨⟨trivial, trivial⟩, trivial⟩⟩, trivial⟩⟩) (fun c Ko s nx => step4 ρ n c Ko s nx) n A Ko r K h hk
def enc (a : (List Int) × (List Int)) : List AV := [.ls (.ints .i64 a.1), .ls (.ints .i64 a.2)]
def dec : List AV → Option ((List Int) × (List Int))
  | [.ls (.ints .i64 a0), .ls (.ints .i64 b1)] => some (a0, b1)
  | _ => none
def emb (b : Bool) : AV × List AV := (.pv (.bool b), [])
def dr : AV → List AV → Option (Bool)
  | .pv (.bool r0), [] => some r0
  | _, _ => none
theorem dec_ok (vs : List AV) (a : (List Int) × (List Int)) (h : dec vs = some a) : vs = enc a := by
  unfold dec at h
  split at h
  · cases h; rfl
  · cases h
theorem dr_ok (v : AV) (o : List AV) (b : Bool) (h : dr v o = some b) : emb b = (v, o) := by
  unfold dr at h
  split at h
  · cases h; rfl
  · cases h
noncomputable def ent (n : Nat) : Ent := { f := 53, ms := [.lend, .lend], α := (List Int) × (List Int), β := Bool, dec := dec, enc := enc, emb := emb, m := fun a => Gm.ref1_Ints n a.1 a.2, hdec := dec_ok }
theorem run (n : Nat) (a : (List Int) × (List Int)) : AEO (env n) (answers (Bool) (used n) (used n)) (tab (Bool) n) body (frameOf (enc a) 0) (bodyO (env n) Try.f53.results.toList (enc a) dr) = (ent n).m a := by kernel_rfl
theorem ok (n : Nat) (hl : EntsOK Try.prog gl (used n)) : EntOK Try.prog gl (ent n) :=
  fnO_sound (P := Try.prog) (e := ent n) (fn := Try.f53) (body := body) (l := used n) (te := te) (gl := gl) (n := ⟨4, 26⟩) (cut := []) (keep := keep) (T := tab (Bool) n) (dr := dr) Try.func53 (by kernel_rfl) (by kernel_rfl) te_ok (by kernel_rfl) (by kernel_rfl) hl (show Cov _ (env n) (tab (Bool) n) body from ⟨trivial, ⟨⟨trivial, ⟨⟨trivial, trivial⟩, trivial⟩⟩, ⟨⟨trivial, lp4_ok n hl⟩, ⟨trivial, trivial⟩⟩⟩⟩) dr_ok (fun a => ⟨rfl, rfl⟩) (run n)
theorem all_ok (n : Nat) : EntOK Try.prog gl (ent n) := ok n trivial
end W_ref1_Ints
namespace W_ref1_Lists
noncomputable def body : Code := Try.f33.body.getD .skip
def keep : List (Nat × List Nat) := [(4, [0, 1, 5])]
noncomputable def used (n : Nat) : List Ent := [W_ref1_Ints.ent n]
noncomputable def env (n : Nat) : Env := envOf te gl (used n) ⟨4, 29⟩ [] keep
def F4 (c : (List (List Int)) × (List (List Int))) (s : Int) : Fr := [(0, .ls (.rows c.1)), (1, .ls (.rows c.2)), (5, .pv (.int .i64 s))]
def d4 : Fr → Option (((List (List Int)) × (List (List Int))) × (Int))
  | [(0, .ls (.rows a0)), (1, .ls (.rows b1)), (5, .pv (.int .i64 i5))] => some ((a0, b1), i5)
  | _ => none
def st4 {ρ : Type} (n : Nat) (c : (List (List Int)) × (List (List Int))) (Ko : Exit → Fr → Option ρ) (s : Int) (nx : Int → Option ρ) : Option ρ :=
  Gm.ref1_Lists_s4 n c.1 c.2 s nx (Ko .ret [(4, .pv (.bool false))]) (Ko (.exit 0) [])
noncomputable def tab (ρ : Type) (n : Nat) : Tab ρ := { live := [(0, [0, 1]), (1, [0, 1, 11]), (2, [4]), (3, [0, 1, 5]), (4, [0, 1, 5, 15]), (5, [0, 1, 5]), (6, [0, 1, 5, 6]), (7, [0, 1, 5, 28]), (8, [4]), (9, [4])], xl := [(0, []), (1, [0, 1, 5])], rl := [4], fz := [], jp := [], lp := [(4, fun A Ko => bnd (d4 A) fun p => iterM (st4 n p.1 Ko) n p.2)] }
noncomputable def b4 : Code := (cL (cB (c2 (c1 (c2 (c2 body))))))
theorem d4_ok (A : Fr) (c : (List (List Int)) × (List (List Int))) (s : Int) (h : d4 A = some (c, s)) : A = F4 c s := by
  unfold d4 at h
  split at h
  · cases h; rfl
  · cases h
theorem step4 (ρ : Type) (n : Nat) (c : (List (List Int)) × (List (List Int))) (Ko : Exit → Fr → Option ρ) (s : Int) (nx : ((List (List Int)) × (List (List Int))) → (Int) → Option ρ) :
    AEO (env n) (answers ρ (used n) (used n)) (tab ρ n) b4 (F4 c s) (thenO (fun A => bnd (d4 (restr (keepOf (env n) b4) A)) fun p => nx p.1 p.2) Ko) = st4 n c Ko s (nx c) := by kernel_rfl
theorem lp4_ok {ρ : Type} (n : Nat) (hl : EntsOK Try.prog gl (used n)) : ∀ (A : Fr) (Ko : Exit → Fr → Option ρ) (r : ρ) (K : Exit → Fr → Prop), (bnd (d4 (restr (keepOf (env n) b4) A)) fun p => iterM (st4 n p.1 Ko) n p.2) = some r → (∀ e A, Ko e A = some r → K e A) → Gx.Sem Try.prog (env n) (.loop b4) A K :=
  fun A Ko r K h hk => loop_cod (P := Try.prog) (E := env n) (T := tab ρ n) (fun _ _ _ h => answers_ok h) F4 d4 (st4 n) d4_ok (show Cov _ (env n) (tab ρ n) b4 from ⟨⟨trivial, ⟨trivial, trivial⟩⟩, ⟨⟨trivial, ⟨trivial, ⟨⟨trivial, trivial⟩, trivial⟩⟩⟩, trivial⟩⟩) (fun c Ko s nx => step4 ρ n c Ko s nx) n A Ko r K h hk
def enc (a : (List (List Int)) × (List (List Int))) : List AV := [.ls (.rows a.1), .ls (.rows a.2)]
def dec : List AV → Option ((List (List Int)) × (List (List Int)))
  | [.ls (.rows a0), .ls (.rows b1)] => some (a0, b1)
  | _ => none
def emb (b : Bool) : AV × List AV := (.pv (.bool b), [])
def dr : AV → List AV → Option (Bool)
  | .pv (.bool r0), [] => some r0
  | _, _ => none
theorem dec_ok (vs : List AV) (a : (List (List Int)) × (List (List Int))) (h : dec vs = some a) : vs = enc a := by
  unfold dec at h
  split at h
  · cases h; rfl
  · cases h
theorem dr_ok (v : AV) (o : List AV) (b : Bool) (h : dr v o = some b) : emb b = (v, o) := by
  unfold dr at h
  split at h
  · cases h; rfl
  · cases h
noncomputable def ent (n : Nat) : Ent := { f := 33, ms := [.lend, .lend], α := (List (List Int)) × (List (List Int)), β := Bool, dec := dec, enc := enc, emb := emb, m := fun a => Gm.ref1_Lists n a.1 a.2, hdec := dec_ok }
theorem run (n : Nat) (a : (List (List Int)) × (List (List Int))) : AEO (env n) (answers (Bool) (used n) (used n)) (tab (Bool) n) body (frameOf (enc a) 0) (bodyO (env n) Try.f33.results.toList (enc a) dr) = (ent n).m a := by kernel_rfl
theorem ok (n : Nat) (hl : EntsOK Try.prog gl (used n)) : EntOK Try.prog gl (ent n) :=
  fnO_sound (P := Try.prog) (e := ent n) (fn := Try.f33) (body := body) (l := used n) (te := te) (gl := gl) (n := ⟨4, 29⟩) (cut := []) (keep := keep) (T := tab (Bool) n) (dr := dr) Try.func33 (by kernel_rfl) (by kernel_rfl) te_ok (by kernel_rfl) (by kernel_rfl) hl (show Cov _ (env n) (tab (Bool) n) body from ⟨trivial, ⟨⟨trivial, ⟨⟨trivial, trivial⟩, trivial⟩⟩, ⟨⟨trivial, lp4_ok n hl⟩, ⟨trivial, trivial⟩⟩⟩⟩) dr_ok (fun a => ⟨rfl, rfl⟩) (run n)
theorem all_ok (n : Nat) : EntOK Try.prog gl (ent n) := ok n ⟨W_ref1_Ints.all_ok n, trivial⟩
end W_ref1_Lists
namespace W_ref2_Designs
noncomputable def body : Code := Try.f12.body.getD .skip
def keep : List (Nat × List Nat) := []
noncomputable def used (n : Nat) : List Ent := [W_ref1_Lists.ent n]
noncomputable def env (n : Nat) : Env := envOf te gl (used n) ⟨2, 19⟩ [] keep
noncomputable def tab (ρ : Type) (_n : Nat) : Tab ρ := { live := [(0, [2, 3]), (1, [2, 3, 5]), (2, [4])], xl := [], rl := [4], fz := [], jp := [], lp := [] }
def enc (a : Int × (List (List Int)) × Int × (List (List Int))) : List AV := [.ag [.pv (.int .i64 a.1), .ls (.rows a.2.1)], .ag [.pv (.int .i64 a.2.2.1), .ls (.rows a.2.2.2)]]
def dec : List AV → Option (Int × (List (List Int)) × Int × (List (List Int)))
  | [.ag [.pv (.int .i64 a0_0), .ls (.rows a0_1)], .ag [.pv (.int .i64 b1_0), .ls (.rows b1_1)]] => some (a0_0, a0_1, b1_0, b1_1)
  | _ => none
def emb (b : Bool) : AV × List AV := (.pv (.bool b), [])
def dr : AV → List AV → Option (Bool)
  | .pv (.bool r0), [] => some r0
  | _, _ => none
theorem dec_ok (vs : List AV) (a : Int × (List (List Int)) × Int × (List (List Int))) (h : dec vs = some a) : vs = enc a := by
  unfold dec at h
  split at h
  · cases h; rfl
  · cases h
theorem dr_ok (v : AV) (o : List AV) (b : Bool) (h : dr v o = some b) : emb b = (v, o) := by
  unfold dr at h
  split at h
  · cases h; rfl
  · cases h
noncomputable def ent (n : Nat) : Ent := { f := 12, ms := [.lend, .lend], α := Int × (List (List Int)) × Int × (List (List Int)), β := Bool, dec := dec, enc := enc, emb := emb, m := fun a => Gm.ref2_Designs n a.1 a.2.1 a.2.2.1 a.2.2.2, hdec := dec_ok }
theorem run (n : Nat) (a : Int × (List (List Int)) × Int × (List (List Int))) : AEO (env n) (answers (Bool) (used n) (used n)) (tab (Bool) n) body (frameOf (enc a) 0) (bodyO (env n) Try.f12.results.toList (enc a) dr) = (ent n).m a := by kernel_rfl
theorem ok (n : Nat) (hl : EntsOK Try.prog gl (used n)) : EntOK Try.prog gl (ent n) :=
  fnO_sound (P := Try.prog) (e := ent n) (fn := Try.f12) (body := body) (l := used n) (te := te) (gl := gl) (n := ⟨2, 19⟩) (cut := []) (keep := keep) (T := tab (Bool) n) (dr := dr) Try.func12 (by kernel_rfl) (by kernel_rfl) te_ok (by kernel_rfl) (by kernel_rfl) hl (show Cov _ (env n) (tab (Bool) n) body from ⟨trivial, ⟨trivial, ⟨trivial, trivial⟩⟩⟩) dr_ok (fun a => ⟨rfl, rfl⟩) (run n)
theorem all_ok (n : Nat) : EntOK Try.prog gl (ent n) := ok n ⟨W_ref1_Lists.all_ok n, trivial⟩
end W_ref2_Designs
namespace W_ref2_grown
def enc (a : Int × (List (List Int)) × Int × Int × Int) : List AV := [.pv (.int .i64 a.1), .sl (.rows a.2.1), .pv (.int .i64 a.2.2.1), .pv (.int .i64 a.2.2.2.1), .pv (.int .i64 a.2.2.2.2)]
def dec : List AV → Option (Int × (List (List Int)) × Int × Int × Int)
  | [.pv (.int .i64 toArray0), .sl (.rows t1), .pv (.int .i64 t2), .pv (.int .i64 t3), .pv (.int .i64 t4)] => some (toArray0, t1, t2, t3, t4)
  | _ => none
def emb (b : (List (List Int)) × Bool) : AV × List AV := (.tp [.sl (.rows b.1), .pv (.bool b.2)], [])
def dr : AV → List AV → Option ((List (List Int)) × Bool)
  | .tp [.sl (.rows r0), .pv (.bool r1)], [] => some (r0, r1)
  | _, _ => none
theorem dec_ok (vs : List AV) (a : Int × (List (List Int)) × Int × Int × Int) (h : dec vs = some a) : vs = enc a := by
  unfold dec at h
  split at h
  · cases h; rfl
  · cases h
theorem dr_ok (v : AV) (o : List AV) (b : (List (List Int)) × Bool) (h : dr v o = some b) : emb b = (v, o) := by
  unfold dr at h
  split at h
  · cases h; rfl
  · cases h
noncomputable def entR (R : Int → List (List Int) → Int → Int → Int → Option ((List (List Int)) × Bool)) : Ent := { f := 34, ms := [.lend, .frz, .lend, .lend, .lend], α := Int × (List (List Int)) × Int × Int × Int, β := (List (List Int)) × Bool, dec := dec, enc := enc, emb := emb, m := fun a => R a.1 a.2.1 a.2.2.1 a.2.2.2.1 a.2.2.2.2, hdec := dec_ok }
end W_ref2_grown
namespace W_ref2_grown
noncomputable def body : Code := Try.f34.body.getD .skip
def keep : List (Nat × List Nat) := [(3, [0, 1, 2, 3, 4]), (5, [0, 1, 2, 3, 4]), (7, [0, 1, 2, 3, 4]), (12, [0, 1, 2, 3, 4, 12, 13, 14]), (24, [0, 1, 2, 3, 19, 20])]
noncomputable def used (n : Nat) (R : Int → List (List Int) → Int → Int → Int → Option ((List (List Int)) × Bool)) : List Ent := [W_ref2_Together.ent n, W_ref2_grown.entR R, W_ref2_Lies.ent n]
noncomputable def env (n : Nat) (R : Int → List (List Int) → Int → Int → Int → Option ((List (List Int)) × Bool)) : Env := envOf te gl (used n R) ⟨2, 122⟩ [] keep
def F12 (c : Int × (List (List Int)) × Int × Int × Int × (List Int)) (s : Bool × Int) : Fr := [(0, .pv (.int .i64 c.1)), (1, .sl (.rows c.2.1)), (2, .pv (.int .i64 c.2.2.1)), (3, .pv (.int .i64 c.2.2.2.1)), (4, .pv (.int .i64 c.2.2.2.2.1)), (12, .ow 3 (.ints .i64 c.2.2.2.2.2)), (13, .pv (.bool s.1)), (14, .pv (.int .i64 s.2))]
def d12 : Fr → Option ((Int × (List (List Int)) × Int × Int × Int × (List Int)) × (Bool × Int))
  | [(0, .pv (.int .i64 toArray0)), (1, .sl (.rows t1)), (2, .pv (.int .i64 t2)), (3, .pv (.int .i64 t3)), (4, .pv (.int .i64 t4)), (12, .ow 3 (.ints .i64 t12)), (13, .pv (.bool t13)), (14, .pv (.int .i64 t14))] => some ((toArray0, t1, t2, t3, t4, t12), (t13, t14))
  | _ => none
def st12 {ρ : Type} (n : Nat) (R : Int → List (List Int) → Int → Int → Int → Option ((List (List Int)) × Bool)) (c : Int × (List (List Int)) × Int × Int × Int × (List Int)) (Ko : Exit → Fr → Option ρ) (s : Bool × Int) (nx : (Bool × Int) → Option ρ) : Option ρ :=
  Gm.ref2_grown_s12 n R c.1 c.2.1 c.2.2.1 c.2.2.2.1 c.2.2.2.2.1 c.2.2.2.2.2 s.1 s.2 (fun a0 a1 => nx (a0, a1)) (fun (y0 : Bool) => Ko (.exit 6) [(0, .pv (.int .i64 c.1)), (1, .sl (.rows c.2.1)), (2, .pv (.int .i64 c.2.2.1)), (3, .pv (.int .i64 c.2.2.2.1)), (4, .pv (.int .i64 c.2.2.2.2.1)), (12, .ow 3 (.ints .i64 c.2.2.2.2.2)), (13, .pv (.bool y0))])
def F7 (c : Int × (List (List Int)) × Int × Int) (s : Int) : Fr := [(0, .pv (.int .i64 c.1)), (1, .sl (.rows c.2.1)), (2, .pv (.int .i64 c.2.2.1)), (3, .pv (.int .i64 c.2.2.2)), (4, .pv (.int .i64 s))]
def d7 : Fr → Option ((Int × (List (List Int)) × Int × Int) × (Int))
  | [(0, .pv (.int .i64 toArray0)), (1, .sl (.rows t1)), (2, .pv (.int .i64 t2)), (3, .pv (.int .i64 t3)), (4, .pv (.int .i64 t4))] => some ((toArray0, t1, t2, t3), t4)
  | _ => none
def st7 {ρ : Type} (n : Nat) (R : Int → List (List Int) → Int → Int → Int → Option ((List (List Int)) × Bool)) (c : Int × (List (List Int)) × Int × Int) (Ko : Exit → Fr → Option ρ) (s : Int) (nx : Int → Option ρ) : Option ρ :=
  Gm.ref2_grown_s7 n R c.1 c.2.1 c.2.2.1 c.2.2.2 s nx (fun (y0 : List (List Int)) => Ko .ret [(11, .pv (.bool true)), (10, .sl (.rows y0))]) (Ko (.exit 4) [(0, .pv (.int .i64 c.1)), (1, .sl (.rows c.2.1)), (2, .pv (.int .i64 c.2.2.1)), (3, .pv (.int .i64 c.2.2.2))])
def F24 (c : Int × (List (List Int)) × Int × Int) (s : Bool × Int) : Fr := [(0, .pv (.int .i64 c.1)), (1, .sl (.rows c.2.1)), (2, .pv (.int .i64 c.2.2.1)), (3, .pv (.int .i64 c.2.2.2)), (19, .pv (.bool s.1)), (20, .pv (.int .i64 s.2))]
def d24 : Fr → Option ((Int × (List (List Int)) × Int × Int) × (Bool × Int))
  | [(0, .pv (.int .i64 toArray0)), (1, .sl (.rows t1)), (2, .pv (.int .i64 t2)), (3, .pv (.int .i64 t3)), (19, .pv (.bool t19)), (20, .pv (.int .i64 t20))] => some ((toArray0, t1, t2, t3), (t19, t20))
  | _ => none
def st24 {ρ : Type} (n : Nat) (R : Int → List (List Int) → Int → Int → Int → Option ((List (List Int)) × Bool)) (c : Int × (List (List Int)) × Int × Int) (Ko : Exit → Fr → Option ρ) (s : Bool × Int) (nx : (Bool × Int) → Option ρ) : Option ρ :=
  Gm.ref2_grown_s24 n R c.1 c.2.1 c.2.2.1 c.2.2.2 s.1 s.2 (fun a0 a1 => nx (a0, a1)) (fun (y0 : Bool) => Ko (.exit 8) [(0, .pv (.int .i64 c.1)), (1, .sl (.rows c.2.1)), (2, .pv (.int .i64 c.2.2.1)), (3, .pv (.int .i64 c.2.2.2)), (19, .pv (.bool y0))])
def F5 (c : Int × (List (List Int)) × Int) (s : Int × Int) : Fr := [(0, .pv (.int .i64 c.1)), (1, .sl (.rows c.2.1)), (2, .pv (.int .i64 c.2.2)), (3, .pv (.int .i64 s.1)), (4, .pv (.int .i64 s.2))]
def d5 : Fr → Option ((Int × (List (List Int)) × Int) × (Int × Int))
  | [(0, .pv (.int .i64 toArray0)), (1, .sl (.rows t1)), (2, .pv (.int .i64 t2)), (3, .pv (.int .i64 t3)), (4, .pv (.int .i64 t4))] => some ((toArray0, t1, t2), (t3, t4))
  | _ => none
def st5 {ρ : Type} (n : Nat) (R : Int → List (List Int) → Int → Int → Int → Option ((List (List Int)) × Bool)) (c : Int × (List (List Int)) × Int) (Ko : Exit → Fr → Option ρ) (s : Int × Int) (nx : (Int × Int) → Option ρ) : Option ρ :=
  Gm.ref2_grown_s5 n R c.1 c.2.1 c.2.2 s.1 s.2 (fun a0 a1 => nx (a0, a1)) (fun (y0 : List (List Int)) => Ko .ret [(11, .pv (.bool true)), (10, .sl (.rows y0))]) (fun (y0 : List (List Int)) => Ko .ret [(11, .pv (.bool false)), (10, .nl 41 (.rows y0))]) (Ko (.exit 2) [(0, .pv (.int .i64 c.1)), (1, .sl (.rows c.2.1)), (2, .pv (.int .i64 c.2.2))])
def F3 (c : Int × (List (List Int))) (s : Int × Int × Int) : Fr := [(0, .pv (.int .i64 c.1)), (1, .sl (.rows c.2)), (2, .pv (.int .i64 s.1)), (3, .pv (.int .i64 s.2.1)), (4, .pv (.int .i64 s.2.2))]
def d3 : Fr → Option ((Int × (List (List Int))) × (Int × Int × Int))
  | [(0, .pv (.int .i64 toArray0)), (1, .sl (.rows t1)), (2, .pv (.int .i64 t2)), (3, .pv (.int .i64 t3)), (4, .pv (.int .i64 t4))] => some ((toArray0, t1), (t2, t3, t4))
  | _ => none
def st3 {ρ : Type} (n : Nat) (R : Int → List (List Int) → Int → Int → Int → Option ((List (List Int)) × Bool)) (c : Int × (List (List Int))) (Ko : Exit → Fr → Option ρ) (s : Int × Int × Int) (nx : (Int × Int × Int) → Option ρ) : Option ρ :=
  Gm.ref2_grown_s3 n R c.1 c.2 s.1 s.2.1 s.2.2 (fun a0 a1 a2 => nx (a0, a1, a2)) (fun (y0 : List (List Int)) => Ko .ret [(11, .pv (.bool true)), (10, .sl (.rows y0))]) (fun (y0 : List (List Int)) => Ko .ret [(11, .pv (.bool false)), (10, .nl 41 (.rows y0))]) (Ko (.exit 0) [])
noncomputable def tab (ρ : Type) (n : Nat) (R : Int → List (List Int) → Int → Int → Int → Option ((List (List Int)) × Bool)) : Tab ρ := { live := [(0, [0, 1, 2, 3, 4]), (1, [0, 1, 2, 3, 4, 30]), (2, [10, 11]), (3, [0, 1, 2, 3, 4, 34]), (4, [0, 1, 2, 3, 4]), (5, [0, 1, 2, 3, 4, 39]), (6, [0, 1, 2, 3, 4]), (7, [0, 1, 2, 3, 4, 44]), (8, [0, 1, 2, 3, 4]), (9, [0, 1, 2, 3, 4, 12]), (10, [0, 1, 2, 3, 4, 12, 13]), (11, [0, 1, 2, 3, 4, 12, 13, 14]), (12, [0, 1, 2, 3, 4, 12, 13, 14, 57]), (13, [0, 1, 2, 3, 4, 12, 13, 14]), (14, [0, 1, 2, 3, 4, 12, 14, 15]), (15, [0, 1, 2, 3, 4, 12, 13, 14]), (16, [0, 1, 2, 3, 4, 12, 69]), (17, [0, 1, 2, 3, 4, 12, 16]), (18, [0, 1, 2, 3, 4, 16]), (19, [0, 1, 2, 3, 4, 17, 18]), (20, [0, 1, 2, 3, 4, 17, 87]), (21, [10, 11]), (22, [0, 1, 2, 3, 19]), (23, [0, 1, 2, 3, 19, 20]), (24, [0, 1, 2, 3, 19, 20, 92]), (25, [0, 1, 2, 3, 19, 20]), (26, [0, 1, 2, 3, 19, 20, 21]), (27, [0, 1, 2, 3, 19, 20, 21, 22]), (28, [0, 1, 2, 3, 19, 20]), (29, [0, 1, 2, 3, 115]), (30, [10, 11]), (31, [0, 1, 2, 3, 4]), (32, [0, 1, 2, 3]), (33, [0, 1, 2, 3, 4]), (34, [10, 11])], xl := [(0, []), (1, [0, 1, 2, 3, 4]), (2, [0, 1, 2]), (3, [0, 1, 2, 3, 4]), (4, [0, 1, 2, 3]), (5, [0, 1, 2, 3, 4]), (6, [0, 1, 2, 3, 4, 12, 13]), (7, [0, 1, 2, 3, 4, 12, 13, 14]), (8, [0, 1, 2, 3, 19]), (9, [0, 1, 2, 3, 19, 20])], rl := [10, 11], fz := [], jp := [], lp := [(12, fun A Ko => bnd (d12 A) fun p => iterM (st12 n R p.1 Ko) n p.2), (7, fun A Ko => bnd (d7 A) fun p => iterM (st7 n R p.1 Ko) n p.2), (24, fun A Ko => bnd (d24 A) fun p => iterM (st24 n R p.1 Ko) n p.2), (5, fun A Ko => bnd (d5 A) fun p => iterM (st5 n R p.1 Ko) n p.2), (3, fun A Ko => bnd (d3 A) fun p => iterM (st3 n R p.1 Ko) n p.2)] }
noncomputable def b12 : Code := (cL (cB (c2 (c1 (c2 (c2 (cB (c1 (c2 (cL (cB (c1 (cB (c1 (c2 (cL (cB (c1 (cB (c1 (c2 (cL (cB (c1 (c2 (c2 body))))))))))))))))))))))))))
theorem d12_ok (A : Fr) (c : Int × (List (List Int)) × Int × Int × Int × (List Int)) (s : Bool × Int) (h : d12 A = some (c, s)) : A = F12 c s := by
  unfold d12 at h
  split at h
  · cases h; rfl
  · cases h
theorem step12 (ρ : Type) (n : Nat) (R : Int → List (List Int) → Int → Int → Int → Option ((List (List Int)) × Bool)) (c : Int × (List (List Int)) × Int × Int × Int × (List Int)) (Ko : Exit → Fr → Option ρ) (s : Bool × Int) (nx : (Int × (List (List Int)) × Int × Int × Int × (List Int)) → (Bool × Int) → Option ρ) :
    AEO (env n R) (answers ρ (used n R) (used n R)) (tab ρ n R) b12 (F12 c s) (thenO (fun A => bnd (d12 (restr (keepOf (env n R) b12) A)) fun p => nx p.1 p.2) Ko) = st12 n R c Ko s (nx c) := by kernel_rfl
theorem lp12_ok {ρ : Type} (n : Nat) (R : Int → List (List Int) → Int → Int → Int → Option ((List (List Int)) × Bool)) (hl : EntsOK Try.prog gl (used n R)) : ∀ (A : Fr) (Ko : Exit → Fr → Option ρ) (r : ρ) (K : Exit → Fr → Prop), (bnd (d12 (restr (keepOf (env n R) b12) A)) fun p => iterM (st12 n R p.1 Ko) n p.2) = some r → (∀ e A, Ko e A = some r → K e A) → Gx.Sem Try.prog (env n R) (.loop b12) A K :=
  fun A Ko r K h hk => loop_cod (P := Try.prog) (E := env n R) (T := tab ρ n R) (fun _ _ _ h => answers_ok h) F12 d12 (st12 n R) d12_ok (show Cov _ (env n R) (tab ρ n R) b12 from ⟨⟨trivial, ⟨trivial, trivial⟩⟩, ⟨⟨trivial, trivial⟩, trivial⟩⟩) (fun c Ko s nx => step12 ρ n R c Ko s nx) n A Ko r K h hk
noncomputable def b7 : Code := (cL (cB (c1 (cB (c1 (c2 (cL (cB (c1 (cB (c1 (c2 (cL (cB (c1 (c2 (c2 body)))))))))))))))))
theorem d7_ok (A : Fr) (c : Int × (List (List Int)) × Int × Int) (s : Int) (h : d7 A = some (c, s)) : A = F7 c s := by
  unfold d7 at h
  split at h
  · cases h; rfl
  · cases h
theorem step7 (ρ : Type) (n : Nat) (R : Int → List (List Int) → Int → Int → Int → Option ((List (List Int)) × Bool)) (c : Int × (List (List Int)) × Int × Int) (Ko : Exit → Fr → Option ρ) (s : Int) (nx : (Int × (List (List Int)) × Int × Int) → (Int) → Option ρ) :
    AEO (env n R) (answers ρ (used n R) (used n R)) (tab ρ n R) b7 (F7 c s) (thenO (fun A => bnd (d7 (restr (keepOf (env n R) b7) A)) fun p => nx p.1 p.2) Ko) = st7 n R c Ko s (nx c) := by kernel_rfl
theorem lp7_ok {ρ : Type} (n : Nat) (R : Int → List (List Int) → Int → Int → Int → Option ((List (List Int)) × Bool)) (hl : EntsOK Try.prog gl (used n R)) : ∀ (A : Fr) (Ko : Exit → Fr → Option ρ) (r : ρ) (K : Exit → Fr → Prop), (bnd (d7 (restr (keepOf (env n R) b7) A)) fun p => iterM (st7 n R p.1 Ko) n p.2) = some r → (∀ e A, Ko e A = some r → K e A) → Gx.Sem Try.prog (env n R) (.loop b7) A K :=
  fun A Ko r K h hk => loop_cod (P := Try.prog) (E := env n R) (T := tab ρ n R) (fun _ _ _ h => answers_ok h) F7 d7 (st7 n R) d7_ok (show Cov _ (env n R) (tab ρ n R) b7 from ⟨⟨trivial, ⟨trivial, trivial⟩⟩, ⟨⟨trivial, ⟨trivial, ⟨⟨trivial, lp12_ok n R hl⟩, ⟨⟨trivial, ⟨trivial, trivial⟩⟩, ⟨trivial, ⟨trivial, ⟨trivial, ⟨trivial, ⟨⟨trivial, trivial⟩, trivial⟩⟩⟩⟩⟩⟩⟩⟩⟩, trivial⟩⟩) (fun c Ko s nx => step7 ρ n R c Ko s nx) n A Ko r K h hk
noncomputable def b24 : Code := (cL (cB (c2 (c1 (c2 (c2 (cB (c1 (c2 (cL (cB (c1 (cB (c1 (c2 (cL (cB (c1 (c2 (c2 body))))))))))))))))))))
theorem d24_ok (A : Fr) (c : Int × (List (List Int)) × Int × Int) (s : Bool × Int) (h : d24 A = some (c, s)) : A = F24 c s := by
  unfold d24 at h
  split at h
  · cases h; rfl
  · cases h
theorem step24 (ρ : Type) (n : Nat) (R : Int → List (List Int) → Int → Int → Int → Option ((List (List Int)) × Bool)) (c : Int × (List (List Int)) × Int × Int) (Ko : Exit → Fr → Option ρ) (s : Bool × Int) (nx : (Int × (List (List Int)) × Int × Int) → (Bool × Int) → Option ρ) :
    AEO (env n R) (answers ρ (used n R) (used n R)) (tab ρ n R) b24 (F24 c s) (thenO (fun A => bnd (d24 (restr (keepOf (env n R) b24) A)) fun p => nx p.1 p.2) Ko) = st24 n R c Ko s (nx c) := by kernel_rfl
theorem lp24_ok {ρ : Type} (n : Nat) (R : Int → List (List Int) → Int → Int → Int → Option ((List (List Int)) × Bool)) (hl : EntsOK Try.prog gl (used n R)) : ∀ (A : Fr) (Ko : Exit → Fr → Option ρ) (r : ρ) (K : Exit → Fr → Prop), (bnd (d24 (restr (keepOf (env n R) b24) A)) fun p => iterM (st24 n R p.1 Ko) n p.2) = some r → (∀ e A, Ko e A = some r → K e A) → Gx.Sem Try.prog (env n R) (.loop b24) A K :=
  fun A Ko r K h hk => loop_cod (P := Try.prog) (E := env n R) (T := tab ρ n R) (fun _ _ _ h => answers_ok h) F24 d24 (st24 n R) d24_ok (show Cov _ (env n R) (tab ρ n R) b24 from ⟨⟨trivial, ⟨trivial, trivial⟩⟩, ⟨⟨trivial, ⟨trivial, trivial⟩⟩, trivial⟩⟩) (fun c Ko s nx => step24 ρ n R c Ko s nx) n A Ko r K h hk
noncomputable def b5 : Code := (cL (cB (c1 (cB (c1 (c2 (cL (cB (c1 (c2 (c2 body)))))))))))
theorem d5_ok (A : Fr) (c : Int × (List (List Int)) × Int) (s : Int × Int) (h : d5 A = some (c, s)) : A = F5 c s := by
  unfold d5 at h
  split at h
  · cases h; rfl
  · cases h
theorem step5 (ρ : Type) (n : Nat) (R : Int → List (List Int) → Int → Int → Int → Option ((List (List Int)) × Bool)) (c : Int × (List (List Int)) × Int) (Ko : Exit → Fr → Option ρ) (s : Int × Int) (nx : (Int × (List (List Int)) × Int) → (Int × Int) → Option ρ) :
    AEO (env n R) (answers ρ (used n R) (used n R)) (tab ρ n R) b5 (F5 c s) (thenO (fun A => bnd (d5 (restr (keepOf (env n R) b5) A)) fun p => nx p.1 p.2) Ko) = st5 n R c Ko s (nx c) := by kernel_rfl
theorem lp5_ok {ρ : Type} (n : Nat) (R : Int → List (List Int) → Int → Int → Int → Option ((List (List Int)) × Bool)) (hl : EntsOK Try.prog gl (used n R)) : ∀ (A : Fr) (Ko : Exit → Fr → Option ρ) (r : ρ) (K : Exit → Fr → Prop), (bnd (d5 (restr (keepOf (env n R) b5) A)) fun p => iterM (st5 n R p.1 Ko) n p.2) = some r → (∀ e A, Ko e A = some r → K e A) → Gx.Sem Try.prog (env n R) (.loop b5) A K :=
  fun A Ko r K h hk => loop_cod (P := Try.prog) (E := env n R) (T := tab ρ n R) (fun _ _ _ h => answers_ok h) F5 d5 (st5 n R) d5_ok (show Cov _ (env n R) (tab ρ n R) b5 from ⟨⟨trivial, ⟨trivial, trivial⟩⟩, ⟨⟨lp7_ok n R hl, ⟨trivial, ⟨⟨trivial, lp24_ok n R hl⟩, ⟨⟨trivial, ⟨⟨trivial, trivial⟩, trivial⟩⟩, trivial⟩⟩⟩⟩, trivial⟩⟩) (fun c Ko s nx => step5 ρ n R c Ko s nx) n A Ko r K h hk
noncomputable def b3 : Code := (cL (cB (c1 (c2 (c2 body)))))
theorem d3_ok (A : Fr) (c : Int × (List (List Int))) (s : Int × Int × Int) (h : d3 A = some (c, s)) : A = F3 c s := by
  unfold d3 at h
  split at h
  · cases h; rfl
  · cases h
theorem step3 (ρ : Type) (n : Nat) (R : Int → List (List Int) → Int → Int → Int → Option ((List (List Int)) × Bool)) (c : Int × (List (List Int))) (Ko : Exit → Fr → Option ρ) (s : Int × Int × Int) (nx : (Int × (List (List Int))) → (Int × Int × Int) → Option ρ) :
    AEO (env n R) (answers ρ (used n R) (used n R)) (tab ρ n R) b3 (F3 c s) (thenO (fun A => bnd (d3 (restr (keepOf (env n R) b3) A)) fun p => nx p.1 p.2) Ko) = st3 n R c Ko s (nx c) := by kernel_rfl
theorem lp3_ok {ρ : Type} (n : Nat) (R : Int → List (List Int) → Int → Int → Int → Option ((List (List Int)) × Bool)) (hl : EntsOK Try.prog gl (used n R)) : ∀ (A : Fr) (Ko : Exit → Fr → Option ρ) (r : ρ) (K : Exit → Fr → Prop), (bnd (d3 (restr (keepOf (env n R) b3) A)) fun p => iterM (st3 n R p.1 Ko) n p.2) = some r → (∀ e A, Ko e A = some r → K e A) → Gx.Sem Try.prog (env n R) (.loop b3) A K :=
  fun A Ko r K h hk => loop_cod (P := Try.prog) (E := env n R) (T := tab ρ n R) (fun _ _ _ h => answers_ok h) F3 d3 (st3 n R) d3_ok (show Cov _ (env n R) (tab ρ n R) b3 from ⟨⟨trivial, ⟨trivial, trivial⟩⟩, ⟨⟨lp5_ok n R hl, ⟨trivial, trivial⟩⟩, trivial⟩⟩) (fun c Ko s nx => step3 ρ n R c Ko s nx) n A Ko r K h hk
noncomputable def ent (n : Nat) (R : Int → List (List Int) → Int → Int → Int → Option ((List (List Int)) × Bool)) : Ent := entR (Gm.ref2_grown_b n R)
theorem run (n : Nat) (R : Int → List (List Int) → Int → Int → Int → Option ((List (List Int)) × Bool)) (a : Int × (List (List Int)) × Int × Int × Int) : AEO (env n R) (answers ((List (List Int)) × Bool) (used n R) (used n R)) (tab ((List (List Int)) × Bool) n R) body (frameOf (enc a) 0) (bodyO (env n R) Try.f34.results.toList (enc a) dr) = (ent n R).m a := by kernel_rfl
theorem ok (n : Nat) (R : Int → List (List Int) → Int → Int → Int → Option ((List (List Int)) × Bool)) (hl : EntsOK Try.prog gl (used n R)) : EntOK Try.prog gl (ent n R) :=
  fnO_sound (P := Try.prog) (e := ent n R) (fn := Try.f34) (body := body) (l := used n R) (te := te) (gl := gl) (n := ⟨2, 122⟩) (cut := []) (keep := keep) (T := tab ((List (List Int)) × Bool) n R) (dr := dr) Try.func34 (by kernel_rfl) (by kernel_rfl) te_ok (by kernel_rfl) (by kernel_rfl) hl (show Cov _ (env n R) (tab ((List (List Int)) × Bool) n R) body from ⟨trivial, ⟨⟨trivial, ⟨⟨trivial, trivial⟩, trivial⟩⟩, ⟨lp3_ok n R hl, ⟨trivial, trivial⟩⟩⟩⟩) dr_ok (fun a => ⟨rfl, rfl⟩) (run n R)
theorem turn (n : Nat) (R : Int → List (List Int) → Int → Int → Int → Option ((List (List Int)) × Bool)) (hR : EntOK Try.prog gl (entR R)) : EntOK Try.prog gl (ent n R) := ok n R ⟨W_ref2_Together.all_ok n, hR, W_ref2_Lies.all_ok n, trivial⟩
theorem rec_ok (n : Nat) : ∀ k, EntOK Try.prog gl (entR (Gm.ref2_grown_r n k))
  | 0 => EntOK_none (by kernel_rfl) (fun _ => rfl)
  | k + 1 => turn n _ (rec_ok n k)
noncomputable def top (n : Nat) : Ent := entR (Gm.ref2_grown n)
theorem top_ok (n : Nat) : EntOK Try.prog gl (top n) := rec_ok n n
end W_ref2_grown
namespace W_ref2_Sorted
noncomputable def body : Code := Try.f54.body.getD .skip
def keep : List (Nat × List Nat) := [(3, [0, 3, 4]), (7, [0, 3, 4, 5])]
noncomputable def used (_n : Nat) : List Ent := []
noncomputable def env (n : Nat) : Env := envOf te gl (used n) ⟨2, 54⟩ [] keep
def F7 (c : (List Int) × Int) (s : (List Int) × Int) : Fr := [(0, .ls (.ints .i64 c.1)), (3, .ow 3 (.ints .i64 s.1)), (4, .pv (.int .i64 c.2)), (5, .pv (.int .i64 s.2))]
def d7 : Fr → Option (((List Int) × Int) × ((List Int) × Int))
  | [(0, .ls (.ints .i64 l0)), (3, .ow 3 (.ints .i64 out3)), (4, .pv (.int .i64 i4)), (5, .pv (.int .i64 k_5))] => some ((l0, i4), (out3, k_5))
  | _ => none
def st7 {ρ : Type} (n : Nat) (c : (List Int) × Int) (Ko : Exit → Fr → Option ρ) (s : (List Int) × Int) (nx : ((List Int) × Int) → Option ρ) : Option ρ :=
  Gm.ref2_Sorted_s7 n c.1 c.2 s.1 s.2 (fun a0 a1 => nx (a0, a1)) (fun (y0 : List Int) => Ko (.exit 2) [(0, .ls (.ints .i64 c.1)), (3, .ow 3 (.ints .i64 y0)), (4, .pv (.int .i64 c.2))])
def F3 (c : List Int) (s : (List Int) × Int) : Fr := [(0, .ls (.ints .i64 c)), (3, .ow 3 (.ints .i64 s.1)), (4, .pv (.int .i64 s.2))]
def d3 : Fr → Option ((List Int) × ((List Int) × Int))
  | [(0, .ls (.ints .i64 l0)), (3, .ow 3 (.ints .i64 out3)), (4, .pv (.int .i64 i4))] => some (l0, (out3, i4))
  | _ => none
def st3 {ρ : Type} (n : Nat) (c : List Int) (Ko : Exit → Fr → Option ρ) (s : (List Int) × Int) (nx : ((List Int) × Int) → Option ρ) : Option ρ :=
  Gm.ref2_Sorted_s3 n c s.1 s.2 (fun a0 a1 => nx (a0, a1)) (fun (y0 : List Int) => Ko (.exit 0) [(3, .ow 3 (.ints .i64 y0))])
noncomputable def tab (ρ : Type) (n : Nat) : Tab ρ := { live := [(0, [0]), (1, [0, 3]), (2, [0, 3, 4]), (3, [0, 3, 4, 9]), (4, [0, 3, 4]), (5, [0, 3, 4, 5]), (6, [0, 3, 4, 5]), (7, [0, 3, 4, 5, 34]), (8, [0, 3, 4, 5]), (9, [0, 3, 4, 5]), (10, [2, 3])], xl := [(0, [3]), (1, [0, 3, 4]), (2, [0, 3, 4]), (3, [0, 3, 4, 5])], rl := [2, 3], fz := [], jp := [], lp := [(7, fun A Ko => bnd (d7 A) fun p => iterM (st7 n p.1 Ko) n p.2), (3, fun A Ko => bnd (d3 A) fun p => iterM (st3 n p.1 Ko) n p.2)] }
noncomputable def b7 : Code := (cL (cB (c2 (c2 (cB (c1 (c2 (cL (cB (c2 (c1 (c2 (c2 body)))))))))))))
theorem d7_ok (A : Fr) (c : (List Int) × Int) (s : (List Int) × Int) (h : d7 A = some (c, s)) : A = F7 c s := by
  unfold d7 at h
  split at h
  · cases h; rfl
  · cases h
theorem step7 (ρ : Type) (n : Nat) (c : (List Int) × Int) (Ko : Exit → Fr → Option ρ) (s : (List Int) × Int) (nx : ((List Int) × Int) → ((List Int) × Int) → Option ρ) :
    AEO (env n) (answers ρ (used n) (used n)) (tab ρ n) b7 (F7 c s) (thenO (fun A => bnd (d7 (restr (keepOf (env n) b7) A)) fun p => nx p.1 p.2) Ko) = st7 n c Ko s (nx c) := by kernel_rfl
theorem lp7_ok {ρ : Type} (n : Nat) (hl : EntsOK Try.prog gl (used n)) : ∀ (A : Fr) (Ko : Exit → Fr → Option ρ) (r : ρ) (K : Exit → Fr → Prop), (bnd (d7 (restr (keepOf (env n) b7) A)) fun p => iterM (st7 n p.1 Ko) n p.2) = some r → (∀ e A, Ko e A = some r → K e A) → Gx.Sem Try.prog (env n) (.loop b7) A K :=
  fun A Ko r K h hk => loop_cod (P := Try.prog) (E := env n) (T := tab ρ n) (fun _ _ _ h => answers_ok h) F7 d7 (st7 n) d7_ok (show Cov _ (env n) (tab ρ n) b7 from ⟨⟨trivial, ⟨trivial, trivial⟩⟩, ⟨trivial, trivial⟩⟩) (fun c Ko s nx => step7 ρ n c Ko s nx) n A Ko r K h hk
noncomputable def b3 : Code := (cL (cB (c2 (c1 (c2 (c2 body))))))
theorem d3_ok (A : Fr) (c : List Int) (s : (List Int) × Int) (h : d3 A = some (c, s)) : A = F3 c s := by
  unfold d3 at h
  split at h
  · cases h; rfl
  · cases h
theorem step3 (ρ : Type) (n : Nat) (c : List Int) (Ko : Exit → Fr → Option ρ) (s : (List Int) × Int) (nx : (List Int) → ((List Int) × Int) → Option ρ) :
    AEO (env n) (answers ρ (used n) (used n)) (tab ρ n) b3 (F3 c s) (thenO (fun A => bnd (d3 (restr (keepOf (env n) b3) A)) fun p => nx p.1 p.2) Ko) = st3 n c Ko s (nx c) := by kernel_rfl
theorem lp3_ok {ρ : Type} (n : Nat) (hl : EntsOK Try.prog gl (used n)) : ∀ (A : Fr) (Ko : Exit → Fr → Option ρ) (r : ρ) (K : Exit → Fr → Prop), (bnd (d3 (restr (keepOf (env n) b3) A)) fun p => iterM (st3 n p.1 Ko) n p.2) = some r → (∀ e A, Ko e A = some r → K e A) → Gx.Sem Try.prog (env n) (.loop b3) A K :=
  fun A Ko r K h hk => loop_cod (P := Try.prog) (E := env n) (T := tab ρ n) (fun _ _ _ h => answers_ok h) F3 d3 (st3 n) d3_ok (show Cov _ (env n) (tab ρ n) b3 from ⟨⟨trivial, ⟨trivial, trivial⟩⟩, ⟨⟨trivial, ⟨trivial, lp7_ok n hl⟩⟩, trivial⟩⟩) (fun c Ko s nx => step3 ρ n c Ko s nx) n A Ko r K h hk
def enc (a : List Int) : List AV := [.ls (.ints .i64 a)]
def dec : List AV → Option (List Int)
  | [.ls (.ints .i64 l0)] => some l0
  | _ => none
def emb (b : List Int) : AV × List AV := (.ow 3 (.ints .i64 b), [])
def dr : AV → List AV → Option (List Int)
  | .ow 3 (.ints .i64 r0), [] => some r0
  | _, _ => none
theorem dec_ok (vs : List AV) (a : List Int) (h : dec vs = some a) : vs = enc a := by
  unfold dec at h
  split at h
  · cases h; rfl
  · cases h
theorem dr_ok (v : AV) (o : List AV) (b : List Int) (h : dr v o = some b) : emb b = (v, o) := by
  unfold dr at h
  split at h
  · cases h; rfl
  · cases h
noncomputable def ent (n : Nat) : Ent := { f := 54, ms := [.lend], α := List Int, β := List Int, dec := dec, enc := enc, emb := emb, m := fun a => Gm.ref2_Sorted n a, hdec := dec_ok }
theorem run (n : Nat) (a : List Int) : AEO (env n) (answers (List Int) (used n) (used n)) (tab (List Int) n) body (frameOf (enc a) 0) (bodyO (env n) Try.f54.results.toList (enc a) dr) = (ent n).m a := by kernel_rfl
theorem ok (n : Nat) (hl : EntsOK Try.prog gl (used n)) : EntOK Try.prog gl (ent n) :=
  fnO_sound (P := Try.prog) (e := ent n) (fn := Try.f54) (body := body) (l := used n) (te := te) (gl := gl) (n := ⟨2, 54⟩) (cut := []) (keep := keep) (T := tab (List Int) n) (dr := dr) Try.func54 (by kernel_rfl) (by kernel_rfl) te_ok (by kernel_rfl) (by kernel_rfl) hl (show Cov _ (env n) (tab (List Int) n) body from ⟨trivial, ⟨trivial, ⟨⟨trivial, lp3_ok n hl⟩, ⟨trivial, trivial⟩⟩⟩⟩) dr_ok (fun a => ⟨rfl, rfl⟩) (run n)
theorem all_ok (n : Nat) : EntOK Try.prog gl (ent n) := ok n trivial
end W_ref2_Sorted
namespace W_ref2_Ahead
noncomputable def body : Code := Try.f55.body.getD .skip
def keep : List (Nat × List Nat) := [(2, [0, 1, 5])]
noncomputable def used (_n : Nat) : List Ent := []
noncomputable def env (n : Nat) : Env := envOf te gl (used n) ⟨4, 41⟩ [] keep
def F2 (c : (List Int) × (List Int)) (s : Int) : Fr := [(0, .ls (.ints .i64 c.1)), (1, .ls (.ints .i64 c.2)), (5, .pv (.int .i64 s))]
def d2 : Fr → Option (((List Int) × (List Int)) × (Int))
  | [(0, .ls (.ints .i64 a0)), (1, .ls (.ints .i64 b1)), (5, .pv (.int .i64 i5))] => some ((a0, b1), i5)
  | _ => none
def st2 {ρ : Type} (n : Nat) (c : (List Int) × (List Int)) (Ko : Exit → Fr → Option ρ) (s : Int) (nx : Int → Option ρ) : Option ρ :=
  Gm.ref2_Ahead_s2 n c.1 c.2 s nx (fun (y0 : Bool) => Ko .ret [(4, .pv (.bool y0))]) (Ko (.exit 0) [(0, .ls (.ints .i64 c.1)), (1, .ls (.ints .i64 c.2))])
noncomputable def tab (ρ : Type) (n : Nat) : Tab ρ := { live := [(0, [0, 1]), (1, [0, 1, 5]), (2, [0, 1, 5, 15]), (3, [0, 1, 5]), (4, [0, 1, 5, 26]), (5, [4]), (6, [4])], xl := [(0, [0, 1]), (1, [0, 1, 5])], rl := [4], fz := [], jp := [], lp := [(2, fun A Ko => bnd (d2 A) fun p => iterM (st2 n p.1 Ko) n p.2)] }
noncomputable def b2 : Code := (cL (cB (c2 (c1 (c2 body)))))
theorem d2_ok (A : Fr) (c : (List Int) × (List Int)) (s : Int) (h : d2 A = some (c, s)) : A = F2 c s := by
  unfold d2 at h
  split at h
  · cases h; rfl
  · cases h
theorem step2 (ρ : Type) (n : Nat) (c : (List Int) × (List Int)) (Ko : Exit → Fr → Option ρ) (s : Int) (nx : ((List Int) × (List Int)) → (Int) → Option ρ) :
    AEO (env n) (answers ρ (used n) (used n)) (tab ρ n) b2 (F2 c s) (thenO (fun A => bnd (d2 (restr (keepOf (env n) b2) A)) fun p => nx p.1 p.2) Ko) = st2 n c Ko s (nx c) := by kernel_rfl
theorem lp2_ok {ρ : Type} (n : Nat) (hl : EntsOK Try.prog gl (used n)) : ∀ (A : Fr) (Ko : Exit → Fr → Option ρ) (r : ρ) (K : Exit → Fr → Prop), (bnd (d2 (restr (keepOf (env n) b2) A)) fun p => iterM (st2 n p.1 Ko) n p.2) = some r → (∀ e A, Ko e A = some r → K e A) → Gx.Sem Try.prog (env n) (.loop b2) A K :=
  fun A Ko r K h hk => loop_cod (P := Try.prog) (E := env n) (T := tab ρ n) (fun _ _ _ h => answers_ok h) F2 d2 (st2 n) d2_ok (show Cov _ (env n) (tab ρ n) b2 from ⟨⟨trivial, ⟨trivial, trivial⟩⟩, ⟨⟨trivial, ⟨⟨trivial, trivial⟩, trivial⟩⟩, trivial⟩⟩) (fun c Ko s nx => step2 ρ n c Ko s nx) n A Ko r K h hk
def enc (a : (List Int) × (List Int)) : List AV := [.ls (.ints .i64 a.1), .ls (.ints .i64 a.2)]
def dec : List AV → Option ((List Int) × (List Int))
  | [.ls (.ints .i64 a0), .ls (.ints .i64 b1)] => some (a0, b1)
  | _ => none
def emb (b : Bool) : AV × List AV := (.pv (.bool b), [])
def dr : AV → List AV → Option (Bool)
  | .pv (.bool r0), [] => some r0
  | _, _ => none
theorem dec_ok (vs : List AV) (a : (List Int) × (List Int)) (h : dec vs = some a) : vs = enc a := by
  unfold dec at h
  split at h
  · cases h; rfl
  · cases h
theorem dr_ok (v : AV) (o : List AV) (b : Bool) (h : dr v o = some b) : emb b = (v, o) := by
  unfold dr at h
  split at h
  · cases h; rfl
  · cases h
noncomputable def ent (n : Nat) : Ent := { f := 55, ms := [.lend, .lend], α := (List Int) × (List Int), β := Bool, dec := dec, enc := enc, emb := emb, m := fun a => Gm.ref2_Ahead n a.1 a.2, hdec := dec_ok }
theorem run (n : Nat) (a : (List Int) × (List Int)) : AEO (env n) (answers (Bool) (used n) (used n)) (tab (Bool) n) body (frameOf (enc a) 0) (bodyO (env n) Try.f55.results.toList (enc a) dr) = (ent n).m a := by kernel_rfl
theorem ok (n : Nat) (hl : EntsOK Try.prog gl (used n)) : EntOK Try.prog gl (ent n) :=
  fnO_sound (P := Try.prog) (e := ent n) (fn := Try.f55) (body := body) (l := used n) (te := te) (gl := gl) (n := ⟨4, 41⟩) (cut := []) (keep := keep) (T := tab (Bool) n) (dr := dr) Try.func55 (by kernel_rfl) (by kernel_rfl) te_ok (by kernel_rfl) (by kernel_rfl) hl (show Cov _ (env n) (tab (Bool) n) body from ⟨trivial, ⟨⟨trivial, lp2_ok n hl⟩, ⟨trivial, trivial⟩⟩⟩) dr_ok (fun a => ⟨rfl, rfl⟩) (run n)
theorem all_ok (n : Nat) : EntOK Try.prog gl (ent n) := ok n trivial
end W_ref2_Ahead
namespace W_ref2_InOrder
noncomputable def body : Code := Try.f35.body.getD .skip
def keep : List (Nat × List Nat) := [(3, [0, 3, 4]), (8, [0, 3, 4, 6])]
noncomputable def used (n : Nat) : List Ent := [W_ref2_Sorted.ent n, W_ref2_Ahead.ent n]
noncomputable def env (n : Nat) : Env := envOf te gl (used n) ⟨2, 58⟩ [] keep
def F8 (c : (List (List Int)) × Int) (s : (List (List Int)) × Int) : Fr := [(0, .ls (.rows c.1)), (3, .ow 41 (.rows s.1)), (4, .pv (.int .i64 c.2)), (6, .pv (.int .i64 s.2))]
def d8 : Fr → Option (((List (List Int)) × Int) × ((List (List Int)) × Int))
  | [(0, .ls (.rows l0)), (3, .ow 41 (.rows out3)), (4, .pv (.int .i64 i4)), (6, .pv (.int .i64 k_6))] => some ((l0, i4), (out3, k_6))
  | _ => none
def st8 {ρ : Type} (n : Nat) (c : (List (List Int)) × Int) (Ko : Exit → Fr → Option ρ) (s : (List (List Int)) × Int) (nx : ((List (List Int)) × Int) → Option ρ) : Option ρ :=
  Gm.ref2_InOrder_s8 n c.1 c.2 s.1 s.2 (fun a0 a1 => nx (a0, a1)) (fun (y0 : List (List Int)) => Ko (.exit 2) [(0, .ls (.rows c.1)), (3, .ow 41 (.rows y0)), (4, .pv (.int .i64 c.2))])
def F3 (c : List (List Int)) (s : (List (List Int)) × Int) : Fr := [(0, .ls (.rows c)), (3, .ow 41 (.rows s.1)), (4, .pv (.int .i64 s.2))]
def d3 : Fr → Option ((List (List Int)) × ((List (List Int)) × Int))
  | [(0, .ls (.rows l0)), (3, .ow 41 (.rows out3)), (4, .pv (.int .i64 i4))] => some (l0, (out3, i4))
  | _ => none
def st3 {ρ : Type} (n : Nat) (c : List (List Int)) (Ko : Exit → Fr → Option ρ) (s : (List (List Int)) × Int) (nx : ((List (List Int)) × Int) → Option ρ) : Option ρ :=
  Gm.ref2_InOrder_s3 n c s.1 s.2 (fun a0 a1 => nx (a0, a1)) (fun (y0 : List (List Int)) => Ko (.exit 0) [(3, .ow 41 (.rows y0))])
noncomputable def tab (ρ : Type) (n : Nat) : Tab ρ := { live := [(0, [0]), (1, [0, 3]), (2, [0, 3, 4]), (3, [0, 3, 4, 11]), (4, [0, 3, 4]), (5, [0, 3, 4, 5]), (6, [0, 3, 4, 5, 6]), (7, [0, 3, 4, 6]), (8, [0, 3, 4, 6, 26]), (9, [0, 3, 4, 6, 7]), (10, [0, 3, 4, 6, 38]), (11, [0, 3, 4, 6]), (12, [0, 3, 4, 6]), (13, [2, 3])], xl := [(0, [3]), (1, [0, 3, 4]), (2, [0, 3, 4]), (3, [0, 3, 4, 6])], rl := [2, 3], fz := [], jp := [], lp := [(8, fun A Ko => bnd (d8 A) fun p => iterM (st8 n p.1 Ko) n p.2), (3, fun A Ko => bnd (d3 A) fun p => iterM (st3 n p.1 Ko) n p.2)] }
noncomputable def b8 : Code := (cL (cB (c2 (c2 (c2 (cB (c1 (c2 (cL (cB (c2 (c1 (c2 (c2 body))))))))))))))
theorem d8_ok (A : Fr) (c : (List (List Int)) × Int) (s : (List (List Int)) × Int) (h : d8 A = some (c, s)) : A = F8 c s := by
  unfold d8 at h
  split at h
  · cases h; rfl
  · cases h
theorem step8 (ρ : Type) (n : Nat) (c : (List (List Int)) × Int) (Ko : Exit → Fr → Option ρ) (s : (List (List Int)) × Int) (nx : ((List (List Int)) × Int) → ((List (List Int)) × Int) → Option ρ) :
    AEO (env n) (answers ρ (used n) (used n)) (tab ρ n) b8 (F8 c s) (thenO (fun A => bnd (d8 (restr (keepOf (env n) b8) A)) fun p => nx p.1 p.2) Ko) = st8 n c Ko s (nx c) := by kernel_rfl
theorem lp8_ok {ρ : Type} (n : Nat) (hl : EntsOK Try.prog gl (used n)) : ∀ (A : Fr) (Ko : Exit → Fr → Option ρ) (r : ρ) (K : Exit → Fr → Prop), (bnd (d8 (restr (keepOf (env n) b8) A)) fun p => iterM (st8 n p.1 Ko) n p.2) = some r → (∀ e A, Ko e A = some r → K e A) → Gx.Sem Try.prog (env n) (.loop b8) A K :=
  fun A Ko r K h hk => loop_cod (P := Try.prog) (E := env n) (T := tab ρ n) (fun _ _ _ h => answers_ok h) F8 d8 (st8 n) d8_ok (show Cov _ (env n) (tab ρ n) b8 from ⟨⟨trivial, ⟨trivial, trivial⟩⟩, ⟨trivial, ⟨⟨trivial, ⟨trivial, trivial⟩⟩, ⟨trivial, trivial⟩⟩⟩⟩) (fun c Ko s nx => step8 ρ n c Ko s nx) n A Ko r K h hk
noncomputable def b3 : Code := (cL (cB (c2 (c1 (c2 (c2 body))))))
theorem d3_ok (A : Fr) (c : List (List Int)) (s : (List (List Int)) × Int) (h : d3 A = some (c, s)) : A = F3 c s := by
  unfold d3 at h
  split at h
  · cases h; rfl
  · cases h
theorem step3 (ρ : Type) (n : Nat) (c : List (List Int)) (Ko : Exit → Fr → Option ρ) (s : (List (List Int)) × Int) (nx : (List (List Int)) → ((List (List Int)) × Int) → Option ρ) :
    AEO (env n) (answers ρ (used n) (used n)) (tab ρ n) b3 (F3 c s) (thenO (fun A => bnd (d3 (restr (keepOf (env n) b3) A)) fun p => nx p.1 p.2) Ko) = st3 n c Ko s (nx c) := by kernel_rfl
theorem lp3_ok {ρ : Type} (n : Nat) (hl : EntsOK Try.prog gl (used n)) : ∀ (A : Fr) (Ko : Exit → Fr → Option ρ) (r : ρ) (K : Exit → Fr → Prop), (bnd (d3 (restr (keepOf (env n) b3) A)) fun p => iterM (st3 n p.1 Ko) n p.2) = some r → (∀ e A, Ko e A = some r → K e A) → Gx.Sem Try.prog (env n) (.loop b3) A K :=
  fun A Ko r K h hk => loop_cod (P := Try.prog) (E := env n) (T := tab ρ n) (fun _ _ _ h => answers_ok h) F3 d3 (st3 n) d3_ok (show Cov _ (env n) (tab ρ n) b3 from ⟨⟨trivial, ⟨trivial, trivial⟩⟩, ⟨⟨trivial, ⟨trivial, ⟨trivial, lp8_ok n hl⟩⟩⟩, trivial⟩⟩) (fun c Ko s nx => step3 ρ n c Ko s nx) n A Ko r K h hk
def enc (a : List (List Int)) : List AV := [.ls (.rows a)]
def dec : List AV → Option (List (List Int))
  | [.ls (.rows l0)] => some l0
  | _ => none
def emb (b : List (List Int)) : AV × List AV := (.ow 41 (.rows b), [])
def dr : AV → List AV → Option (List (List Int))
  | .ow 41 (.rows r0), [] => some r0
  | _, _ => none
theorem dec_ok (vs : List AV) (a : List (List Int)) (h : dec vs = some a) : vs = enc a := by
  unfold dec at h
  split at h
  · cases h; rfl
  · cases h
theorem dr_ok (v : AV) (o : List AV) (b : List (List Int)) (h : dr v o = some b) : emb b = (v, o) := by
  unfold dr at h
  split at h
  · cases h; rfl
  · cases h
noncomputable def ent (n : Nat) : Ent := { f := 35, ms := [.lend], α := List (List Int), β := List (List Int), dec := dec, enc := enc, emb := emb, m := fun a => Gm.ref2_InOrder n a, hdec := dec_ok }
theorem run (n : Nat) (a : List (List Int)) : AEO (env n) (answers (List (List Int)) (used n) (used n)) (tab (List (List Int)) n) body (frameOf (enc a) 0) (bodyO (env n) Try.f35.results.toList (enc a) dr) = (ent n).m a := by kernel_rfl
theorem ok (n : Nat) (hl : EntsOK Try.prog gl (used n)) : EntOK Try.prog gl (ent n) :=
  fnO_sound (P := Try.prog) (e := ent n) (fn := Try.f35) (body := body) (l := used n) (te := te) (gl := gl) (n := ⟨2, 58⟩) (cut := []) (keep := keep) (T := tab (List (List Int)) n) (dr := dr) Try.func35 (by kernel_rfl) (by kernel_rfl) te_ok (by kernel_rfl) (by kernel_rfl) hl (show Cov _ (env n) (tab (List (List Int)) n) body from ⟨trivial, ⟨trivial, ⟨⟨trivial, lp3_ok n hl⟩, ⟨trivial, trivial⟩⟩⟩⟩) dr_ok (fun a => ⟨rfl, rfl⟩) (run n)
theorem all_ok (n : Nat) : EntOK Try.prog gl (ent n) := ok n ⟨W_ref2_Sorted.all_ok n, W_ref2_Ahead.all_ok n, trivial⟩
end W_ref2_InOrder
namespace W_ref2_GrowOf
noncomputable def body : Code := Try.f13.body.getD .skip
def keep : List (Nat × List Nat) := []
noncomputable def used (n : Nat) : List Ent := [W_ref2_grown.top n, W_ref2_InOrder.ent n]
noncomputable def env (n : Nat) : Env := envOf te gl (used n) ⟨4, 23⟩ [] keep
noncomputable def tab (ρ : Type) (_n : Nat) : Tab ρ := { live := [(0, [0, 1, 4]), (1, [0, 4, 6, 7]), (2, [0, 4, 6, 16]), (3, [4, 5]), (4, [0, 4, 8]), (5, [4, 5])], xl := [], rl := [4, 5], fz := [], jp := [], lp := [] }
def enc (a : Int × (List (List Int))) : List AV := [.pv (.int .i64 a.1), .sl (.rows a.2)]
def dec : List AV → Option (Int × (List (List Int)))
  | [.pv (.int .i64 v0), .sl (.rows blocks1)] => some (v0, blocks1)
  | _ => none
def emb (b : Int × (List (List Int)) × Int) : AV × List AV := (.tp [.ag [.pv (.int .i64 b.1), .sl (.rows b.2.1)], .pv (.int .i64 b.2.2)], [])
def dr : AV → List AV → Option (Int × (List (List Int)) × Int)
  | .tp [.ag [.pv (.int .i64 r0), .sl (.rows r1)], .pv (.int .i64 r2)], [] => some (r0, r1, r2)
  | _, _ => none
theorem dec_ok (vs : List AV) (a : Int × (List (List Int))) (h : dec vs = some a) : vs = enc a := by
  unfold dec at h
  split at h
  · cases h; rfl
  · cases h
theorem dr_ok (v : AV) (o : List AV) (b : Int × (List (List Int)) × Int) (h : dr v o = some b) : emb b = (v, o) := by
  unfold dr at h
  split at h
  · cases h; rfl
  · cases h
noncomputable def ent (n : Nat) : Ent := { f := 13, ms := [.lend, .frz], α := Int × (List (List Int)), β := Int × (List (List Int)) × Int, dec := dec, enc := enc, emb := emb, m := fun a => Gm.ref2_GrowOf n a.1 a.2, hdec := dec_ok }
theorem run (n : Nat) (a : Int × (List (List Int))) : AEO (env n) (answers (Int × (List (List Int)) × Int) (used n) (used n)) (tab (Int × (List (List Int)) × Int) n) body (frameOf (enc a) 0) (bodyO (env n) Try.f13.results.toList (enc a) dr) = (ent n).m a := by kernel_rfl
theorem ok (n : Nat) (hl : EntsOK Try.prog gl (used n)) : EntOK Try.prog gl (ent n) :=
  fnO_sound (P := Try.prog) (e := ent n) (fn := Try.f13) (body := body) (l := used n) (te := te) (gl := gl) (n := ⟨4, 23⟩) (cut := []) (keep := keep) (T := tab (Int × (List (List Int)) × Int) n) (dr := dr) Try.func13 (by kernel_rfl) (by kernel_rfl) te_ok (by kernel_rfl) (by kernel_rfl) hl (show Cov _ (env n) (tab (Int × (List (List Int)) × Int) n) body from ⟨trivial, ⟨trivial, ⟨⟨trivial, ⟨⟨trivial, trivial⟩, trivial⟩⟩, ⟨trivial, ⟨trivial, trivial⟩⟩⟩⟩⟩) dr_ok (fun a => ⟨rfl, rfl⟩) (run n)
theorem all_ok (n : Nat) : EntOK Try.prog gl (ent n) := ok n ⟨W_ref2_grown.top_ok n, W_ref2_InOrder.all_ok n, trivial⟩
end W_ref2_GrowOf
namespace W_law2_TripleGrows
noncomputable def body : Code := Try.f4.body.getD .skip
def keep : List (Nat × List Nat) := []
noncomputable def used (n : Nat) : List Ent := [W_ref2_GrowFault.ent n, W_triple_Grow.ent n, W_ref2_Designs.ent n, W_ref2_GrowOf.ent n]
noncomputable def env (n : Nat) : Env := envOf te gl (used n) ⟨4, 47⟩ [] keep
noncomputable def tab (ρ : Type) (_n : Nat) : Tab ρ := { live := [(0, [0, 1]), (1, [0, 1, 5]), (2, [0, 1, 5, 6, 7]), (3, [0, 1, 5, 6, 7, 22]), (4, [5, 7, 8]), (5, [4]), (6, [6, 7, 9, 10]), (7, [7, 10, 11]), (8, [4])], xl := [], rl := [4], fz := [], jp := [], lp := [] }
def enc (a : Int × (List (List Int))) : List AV := [.pv (.int .i64 a.1), .sl (.rows a.2)]
def dec : List AV → Option (Int × (List (List Int)))
  | [.pv (.int .i64 v0), .sl (.rows blocks1)] => some (v0, blocks1)
  | _ => none
def emb (b : Bool) : AV × List AV := (.pv (.bool b), [])
def dr : AV → List AV → Option (Bool)
  | .pv (.bool r0), [] => some r0
  | _, _ => none
theorem dec_ok (vs : List AV) (a : Int × (List (List Int))) (h : dec vs = some a) : vs = enc a := by
  unfold dec at h
  split at h
  · cases h; rfl
  · cases h
theorem dr_ok (v : AV) (o : List AV) (b : Bool) (h : dr v o = some b) : emb b = (v, o) := by
  unfold dr at h
  split at h
  · cases h; rfl
  · cases h
noncomputable def ent (n : Nat) : Ent := { f := 4, ms := [.lend, .frz], α := Int × (List (List Int)), β := Bool, dec := dec, enc := enc, emb := emb, m := fun a => Gm.law2_TripleGrows n a.1 a.2, hdec := dec_ok }
theorem run (n : Nat) (a : Int × (List (List Int))) : AEO (env n) (answers (Bool) (used n) (used n)) (tab (Bool) n) body (frameOf (enc a) 0) (bodyO (env n) Try.f4.results.toList (enc a) dr) = (ent n).m a := by kernel_rfl
theorem ok (n : Nat) (hl : EntsOK Try.prog gl (used n)) : EntOK Try.prog gl (ent n) :=
  fnO_sound (P := Try.prog) (e := ent n) (fn := Try.f4) (body := body) (l := used n) (te := te) (gl := gl) (n := ⟨4, 47⟩) (cut := []) (keep := keep) (T := tab (Bool) n) (dr := dr) Try.func4 (by kernel_rfl) (by kernel_rfl) te_ok (by kernel_rfl) (by kernel_rfl) hl (show Cov _ (env n) (tab (Bool) n) body from ⟨trivial, ⟨trivial, ⟨trivial, ⟨⟨trivial, ⟨⟨trivial, ⟨trivial, trivial⟩⟩, trivial⟩⟩, ⟨trivial, ⟨trivial, ⟨trivial, trivial⟩⟩⟩⟩⟩⟩⟩) dr_ok (fun a => ⟨rfl, rfl⟩) (run n)
theorem all_ok (n : Nat) : EntOK Try.prog gl (ent n) := ok n ⟨W_ref2_GrowFault.all_ok n, W_triple_Grow.all_ok n, W_ref2_Designs.all_ok n, W_ref2_GrowOf.all_ok n, trivial⟩
end W_law2_TripleGrows
namespace W_ref2_DesignFault
noncomputable def body : Code := Try.f20.body.getD .skip
def keep : List (Nat × List Nat) := [(6, [1, 3]), (10, [1, 3, 4, 5]), (15, [1, 3, 4, 6])]
noncomputable def used (_n : Nat) : List Ent := []
noncomputable def env (n : Nat) : Env := envOf te gl (used n) ⟨1, 67⟩ [] keep
def F10 (c : Int × (List (List Int)) × Int × (List Int)) (s : Int) : Fr := [(1, .bx [.pv (.int .i64 c.1), .ls (.rows c.2.1)]), (3, .pv (.int .i64 c.2.2.1)), (4, .sl (.ints .i64 c.2.2.2)), (5, .pv (.int .i64 s))]
def d10 : Fr → Option ((Int × (List (List Int)) × Int × (List Int)) × (Int))
  | [(1, .bx [.pv (.int .i64 t1_0), .ls (.rows t1_1)]), (3, .pv (.int .i64 t3)), (4, .sl (.ints .i64 t4)), (5, .pv (.int .i64 t5))] => some ((t1_0, t1_1, t3, t4), t5)
  | _ => none
def st10 {ρ : Type} (n : Nat) (c : Int × (List (List Int)) × Int × (List Int)) (Ko : Exit → Fr → Option ρ) (s : Int) (nx : Int → Option ρ) : Option ρ :=
  Gm.ref2_DesignFault_s10 n c.1 c.2.1 c.2.2.1 c.2.2.2 s nx (Ko .ret [(2, .pv (.int .i64 1))]) (Ko (.exit 2) [(1, .bx [.pv (.int .i64 c.1), .ls (.rows c.2.1)]), (3, .pv (.int .i64 c.2.2.1)), (4, .sl (.ints .i64 c.2.2.2))])
def F15 (c : Int × (List (List Int)) × Int × (List Int)) (s : Int) : Fr := [(1, .bx [.pv (.int .i64 c.1), .ls (.rows c.2.1)]), (3, .pv (.int .i64 c.2.2.1)), (4, .sl (.ints .i64 c.2.2.2)), (6, .pv (.int .i64 s))]
def d15 : Fr → Option ((Int × (List (List Int)) × Int × (List Int)) × (Int))
  | [(1, .bx [.pv (.int .i64 t1_0), .ls (.rows t1_1)]), (3, .pv (.int .i64 t3)), (4, .sl (.ints .i64 t4)), (6, .pv (.int .i64 t6))] => some ((t1_0, t1_1, t3, t4), t6)
  | _ => none
def st15 {ρ : Type} (n : Nat) (c : Int × (List (List Int)) × Int × (List Int)) (Ko : Exit → Fr → Option ρ) (s : Int) (nx : Int → Option ρ) : Option ρ :=
  Gm.ref2_DesignFault_s15 n c.1 c.2.1 c.2.2.1 c.2.2.2 s nx (Ko .ret [(2, .pv (.int .i64 2))]) (Ko (.exit 4) [(1, .bx [.pv (.int .i64 c.1), .ls (.rows c.2.1)]), (3, .pv (.int .i64 c.2.2.1))])
def F6 (c : Int × (List (List Int))) (s : Int) : Fr := [(1, .bx [.pv (.int .i64 c.1), .ls (.rows c.2)]), (3, .pv (.int .i64 s))]
def d6 : Fr → Option ((Int × (List (List Int))) × (Int))
  | [(1, .bx [.pv (.int .i64 t1_0), .ls (.rows t1_1)]), (3, .pv (.int .i64 t3))] => some ((t1_0, t1_1), t3)
  | _ => none
def st6 {ρ : Type} (n : Nat) (c : Int × (List (List Int))) (Ko : Exit → Fr → Option ρ) (s : Int) (nx : Int → Option ρ) : Option ρ :=
  Gm.ref2_DesignFault_s6 n c.1 c.2 s nx (Ko .ret [(2, .pv (.int .i64 1))]) (Ko .ret [(2, .pv (.int .i64 2))]) (Ko (.exit 0) [])
noncomputable def tab (ρ : Type) (n : Nat) : Tab ρ := { live := [(0, [1]), (1, [1, 14]), (2, [2]), (3, [1, 18]), (4, [2]), (5, [1, 3]), (6, [1, 3, 23]), (7, [1, 3]), (8, [1, 3, 4]), (9, [1, 3, 4, 5]), (10, [1, 3, 4, 5, 34]), (11, [1, 3, 4, 5]), (12, [1, 3, 4, 5, 50]), (13, [2]), (14, [1, 3, 4, 6]), (15, [1, 3, 4, 6, 54]), (16, [1, 3, 4, 6]), (17, [1, 3, 4, 6, 66]), (18, [2]), (19, [2])], xl := [(0, []), (1, [1, 3]), (2, [1, 3, 4]), (3, [1, 3, 4, 5]), (4, [1, 3]), (5, [1, 3, 4, 6])], rl := [2], fz := [], jp := [], lp := [(10, fun A Ko => bnd (d10 A) fun p => iterM (st10 n p.1 Ko) n p.2), (15, fun A Ko => bnd (d15 A) fun p => iterM (st15 n p.1 Ko) n p.2), (6, fun A Ko => bnd (d6 A) fun p => iterM (st6 n p.1 Ko) n p.2)] }
noncomputable def b10 : Code := (cL (cB (c2 (c1 (c2 (cB (c1 (c2 (cL (cB (c2 (c1 (c2 (c2 (c2 body)))))))))))))))
theorem d10_ok (A : Fr) (c : Int × (List (List Int)) × Int × (List Int)) (s : Int) (h : d10 A = some (c, s)) : A = F10 c s := by
  unfold d10 at h
  split at h
  · cases h; rfl
  · cases h
theorem step10 (ρ : Type) (n : Nat) (c : Int × (List (List Int)) × Int × (List Int)) (Ko : Exit → Fr → Option ρ) (s : Int) (nx : (Int × (List (List Int)) × Int × (List Int)) → (Int) → Option ρ) :
    AEO (env n) (answers ρ (used n) (used n)) (tab ρ n) b10 (F10 c s) (thenO (fun A => bnd (d10 (restr (keepOf (env n) b10) A)) fun p => nx p.1 p.2) Ko) = st10 n c Ko s (nx c) := by kernel_rfl
theorem lp10_ok {ρ : Type} (n : Nat) (hl : EntsOK Try.prog gl (used n)) : ∀ (A : Fr) (Ko : Exit → Fr → Option ρ) (r : ρ) (K : Exit → Fr → Prop), (bnd (d10 (restr (keepOf (env n) b10) A)) fun p => iterM (st10 n p.1 Ko) n p.2) = some r → (∀ e A, Ko e A = some r → K e A) → Gx.Sem Try.prog (env n) (.loop b10) A K :=
  fun A Ko r K h hk => loop_cod (P := Try.prog) (E := env n) (T := tab ρ n) (fun _ _ _ h => answers_ok h) F10 d10 (st10 n) d10_ok (show Cov _ (env n) (tab ρ n) b10 from ⟨⟨trivial, ⟨trivial, trivial⟩⟩, ⟨⟨trivial, ⟨⟨trivial, trivial⟩, trivial⟩⟩, trivial⟩⟩) (fun c Ko s nx => step10 ρ n c Ko s nx) n A Ko r K h hk
noncomputable def b15 : Code := (cL (cB (c2 (c2 (c2 (cB (c1 (c2 (cL (cB (c2 (c1 (c2 (c2 (c2 body)))))))))))))))
theorem d15_ok (A : Fr) (c : Int × (List (List Int)) × Int × (List Int)) (s : Int) (h : d15 A = some (c, s)) : A = F15 c s := by
  unfold d15 at h
  split at h
  · cases h; rfl
  · cases h
theorem step15 (ρ : Type) (n : Nat) (c : Int × (List (List Int)) × Int × (List Int)) (Ko : Exit → Fr → Option ρ) (s : Int) (nx : (Int × (List (List Int)) × Int × (List Int)) → (Int) → Option ρ) :
    AEO (env n) (answers ρ (used n) (used n)) (tab ρ n) b15 (F15 c s) (thenO (fun A => bnd (d15 (restr (keepOf (env n) b15) A)) fun p => nx p.1 p.2) Ko) = st15 n c Ko s (nx c) := by kernel_rfl
theorem lp15_ok {ρ : Type} (n : Nat) (hl : EntsOK Try.prog gl (used n)) : ∀ (A : Fr) (Ko : Exit → Fr → Option ρ) (r : ρ) (K : Exit → Fr → Prop), (bnd (d15 (restr (keepOf (env n) b15) A)) fun p => iterM (st15 n p.1 Ko) n p.2) = some r → (∀ e A, Ko e A = some r → K e A) → Gx.Sem Try.prog (env n) (.loop b15) A K :=
  fun A Ko r K h hk => loop_cod (P := Try.prog) (E := env n) (T := tab ρ n) (fun _ _ _ h => answers_ok h) F15 d15 (st15 n) d15_ok (show Cov _ (env n) (tab ρ n) b15 from ⟨⟨trivial, ⟨trivial, trivial⟩⟩, ⟨⟨trivial, ⟨⟨trivial, trivial⟩, trivial⟩⟩, trivial⟩⟩) (fun c Ko s nx => step15 ρ n c Ko s nx) n A Ko r K h hk
noncomputable def b6 : Code := (cL (cB (c2 (c1 (c2 (c2 (c2 body)))))))
theorem d6_ok (A : Fr) (c : Int × (List (List Int))) (s : Int) (h : d6 A = some (c, s)) : A = F6 c s := by
  unfold d6 at h
  split at h
  · cases h; rfl
  · cases h
theorem step6 (ρ : Type) (n : Nat) (c : Int × (List (List Int))) (Ko : Exit → Fr → Option ρ) (s : Int) (nx : (Int × (List (List Int))) → (Int) → Option ρ) :
    AEO (env n) (answers ρ (used n) (used n)) (tab ρ n) b6 (F6 c s) (thenO (fun A => bnd (d6 (restr (keepOf (env n) b6) A)) fun p => nx p.1 p.2) Ko) = st6 n c Ko s (nx c) := by kernel_rfl
theorem lp6_ok {ρ : Type} (n : Nat) (hl : EntsOK Try.prog gl (used n)) : ∀ (A : Fr) (Ko : Exit → Fr → Option ρ) (r : ρ) (K : Exit → Fr → Prop), (bnd (d6 (restr (keepOf (env n) b6) A)) fun p => iterM (st6 n p.1 Ko) n p.2) = some r → (∀ e A, Ko e A = some r → K e A) → Gx.Sem Try.prog (env n) (.loop b6) A K :=
  fun A Ko r K h hk => loop_cod (P := Try.prog) (E := env n) (T := tab ρ n) (fun _ _ _ h => answers_ok h) F6 d6 (st6 n) d6_ok (show Cov _ (env n) (tab ρ n) b6 from ⟨⟨trivial, ⟨trivial, trivial⟩⟩, ⟨⟨trivial, ⟨⟨trivial, lp10_ok n hl⟩, ⟨trivial, lp15_ok n hl⟩⟩⟩, trivial⟩⟩) (fun c Ko s nx => step6 ρ n c Ko s nx) n A Ko r K h hk
def enc (a : Int × (List (List Int))) : List AV := [.ag [.pv (.int .i64 a.1), .ls (.rows a.2)]]
def dec : List AV → Option (Int × (List (List Int)))
  | [.ag [.pv (.int .i64 toArray0_0), .ls (.rows toArray0_1)]] => some (toArray0_0, toArray0_1)
  | _ => none
def emb (b : Int) : AV × List AV := (.pv (.int .i64 b), [])
def dr : AV → List AV → Option (Int)
  | .pv (.int .i64 r0), [] => some r0
  | _, _ => none
theorem dec_ok (vs : List AV) (a : Int × (List (List Int))) (h : dec vs = some a) : vs = enc a := by
  unfold dec at h
  split at h
  · cases h; rfl
  · cases h
theorem dr_ok (v : AV) (o : List AV) (b : Int) (h : dr v o = some b) : emb b = (v, o) := by
  unfold dr at h
  split at h
  · cases h; rfl
  · cases h
noncomputable def ent (n : Nat) : Ent := { f := 20, ms := [.lend], α := Int × (List (List Int)), β := Int, dec := dec, enc := enc, emb := emb, m := fun a => Gm.ref2_DesignFault n a.1 a.2, hdec := dec_ok }
theorem run (n : Nat) (a : Int × (List (List Int))) : AEO (env n) (answers (Int) (used n) (used n)) (tab (Int) n) body (frameOf (enc a) 0) (bodyO (env n) Try.f20.results.toList (enc a) dr) = (ent n).m a := by kernel_rfl
theorem ok (n : Nat) (hl : EntsOK Try.prog gl (used n)) : EntOK Try.prog gl (ent n) :=
  fnO_sound (P := Try.prog) (e := ent n) (fn := Try.f20) (body := body) (l := used n) (te := te) (gl := gl) (n := ⟨1, 67⟩) (cut := []) (keep := keep) (T := tab (Int) n) (dr := dr) Try.func20 (by kernel_rfl) (by kernel_rfl) te_ok (by kernel_rfl) (by kernel_rfl) hl (show Cov _ (env n) (tab (Int) n) body from ⟨trivial, ⟨⟨trivial, ⟨⟨trivial, trivial⟩, trivial⟩⟩, ⟨⟨trivial, ⟨⟨trivial, trivial⟩, trivial⟩⟩, ⟨⟨trivial, lp6_ok n hl⟩, ⟨trivial, trivial⟩⟩⟩⟩⟩) dr_ok (fun a => ⟨rfl, rfl⟩) (run n)
theorem all_ok (n : Nat) : EntOK Try.prog gl (ent n) := ok n trivial
end W_ref2_DesignFault
namespace W_ref2_TripleFault
noncomputable def body : Code := Try.f7.body.getD .skip
def keep : List (Nat × List Nat) := [(5, [1, 4]), (10, [1, 5]), (13, [1, 5, 6]), (17, [1, 5, 6, 7, 8])]
noncomputable def used (n : Nat) : List Ent := [W_ref2_DesignFault.ent n, W_ref2_Lies.ent n]
noncomputable def env (n : Nat) : Env := envOf te gl (used n) ⟨1, 70⟩ [] keep
def F5 (c : Int × (List (List Int))) (s : Int) : Fr := [(1, .bx [.pv (.int .i64 c.1), .ls (.rows c.2)]), (4, .pv (.int .i64 s))]
def d5 : Fr → Option ((Int × (List (List Int))) × (Int))
  | [(1, .bx [.pv (.int .i64 t1_0), .ls (.rows t1_1)]), (4, .pv (.int .i64 t4))] => some ((t1_0, t1_1), t4)
  | _ => none
def st5 {ρ : Type} (n : Nat) (c : Int × (List (List Int))) (Ko : Exit → Fr → Option ρ) (s : Int) (nx : Int → Option ρ) : Option ρ :=
  Gm.ref2_TripleFault_s5 n c.1 c.2 s nx (Ko .ret [(2, .pv (.int .i64 4))]) (Ko (.exit 0) [(1, .bx [.pv (.int .i64 c.1), .ls (.rows c.2)])])
def F17 (c : Int × (List (List Int)) × Int × Int) (s : Int × Int) : Fr := [(1, .bx [.pv (.int .i64 c.1), .ls (.rows c.2.1)]), (5, .pv (.int .i64 c.2.2.1)), (6, .pv (.int .i64 c.2.2.2)), (7, .pv (.int .i64 s.1)), (8, .pv (.int .i64 s.2))]
def d17 : Fr → Option ((Int × (List (List Int)) × Int × Int) × (Int × Int))
  | [(1, .bx [.pv (.int .i64 t1_0), .ls (.rows t1_1)]), (5, .pv (.int .i64 t5)), (6, .pv (.int .i64 t6)), (7, .pv (.int .i64 t7)), (8, .pv (.int .i64 t8))] => some ((t1_0, t1_1, t5, t6), (t7, t8))
  | _ => none
def st17 {ρ : Type} (n : Nat) (c : Int × (List (List Int)) × Int × Int) (Ko : Exit → Fr → Option ρ) (s : Int × Int) (nx : (Int × Int) → Option ρ) : Option ρ :=
  Gm.ref2_TripleFault_s17 n c.1 c.2.1 c.2.2.1 c.2.2.2 s.1 s.2 (fun a0 a1 => nx (a0, a1)) (fun (y0 : Int) => Ko (.exit 6) [(1, .bx [.pv (.int .i64 c.1), .ls (.rows c.2.1)]), (5, .pv (.int .i64 c.2.2.1)), (6, .pv (.int .i64 c.2.2.2)), (7, .pv (.int .i64 y0))])
def F13 (c : Int × (List (List Int)) × Int) (s : Int) : Fr := [(1, .bx [.pv (.int .i64 c.1), .ls (.rows c.2.1)]), (5, .pv (.int .i64 c.2.2)), (6, .pv (.int .i64 s))]
def d13 : Fr → Option ((Int × (List (List Int)) × Int) × (Int))
  | [(1, .bx [.pv (.int .i64 t1_0), .ls (.rows t1_1)]), (5, .pv (.int .i64 t5)), (6, .pv (.int .i64 t6))] => some ((t1_0, t1_1, t5), t6)
  | _ => none
def st13 {ρ : Type} (n : Nat) (c : Int × (List (List Int)) × Int) (Ko : Exit → Fr → Option ρ) (s : Int) (nx : Int → Option ρ) : Option ρ :=
  Gm.ref2_TripleFault_s13 n c.1 c.2.1 c.2.2 s nx (Ko .ret [(2, .pv (.int .i64 4))]) (Ko (.exit 4) [(1, .bx [.pv (.int .i64 c.1), .ls (.rows c.2.1)]), (5, .pv (.int .i64 c.2.2))])
def F10 (c : Int × (List (List Int))) (s : Int) : Fr := [(1, .bx [.pv (.int .i64 c.1), .ls (.rows c.2)]), (5, .pv (.int .i64 s))]
def d10 : Fr → Option ((Int × (List (List Int))) × (Int))
  | [(1, .bx [.pv (.int .i64 t1_0), .ls (.rows t1_1)]), (5, .pv (.int .i64 t5))] => some ((t1_0, t1_1), t5)
  | _ => none
def st10 {ρ : Type} (n : Nat) (c : Int × (List (List Int))) (Ko : Exit → Fr → Option ρ) (s : Int) (nx : Int → Option ρ) : Option ρ :=
  Gm.ref2_TripleFault_s10 n c.1 c.2 s nx (Ko .ret [(2, .pv (.int .i64 4))]) (Ko (.exit 2) [])
noncomputable def tab (ρ : Type) (n : Nat) : Tab ρ := { live := [(0, [1]), (1, [1, 3]), (2, [1, 3, 14]), (3, [2]), (4, [1, 4]), (5, [1, 4, 20]), (6, [1, 4]), (7, [1, 4, 29]), (8, [2]), (9, [1, 5]), (10, [1, 5, 33]), (11, [1, 5]), (12, [1, 5, 6]), (13, [1, 5, 6, 38]), (14, [1, 5, 6]), (15, [1, 5, 6, 7]), (16, [1, 5, 6, 7, 8]), (17, [1, 5, 6, 7, 8, 45]), (18, [1, 5, 6, 7, 8]), (19, [1, 5, 6, 7, 8, 9]), (20, [1, 5, 6, 7, 8, 9, 10]), (21, [1, 5, 6, 7, 8, 65]), (22, [1, 5, 6, 7, 8]), (23, [1, 5, 6, 69]), (24, [2]), (25, [2])], xl := [(0, [1]), (1, [1, 4]), (2, []), (3, [1, 5]), (4, [1, 5]), (5, [1, 5, 6]), (6, [1, 5, 6, 7]), (7, [1, 5, 6, 7, 8])], rl := [2], fz := [], jp := [], lp := [(5, fun A Ko => bnd (d5 A) fun p => iterM (st5 n p.1 Ko) n p.2), (17, fun A Ko => bnd (d17 A) fun p => iterM (st17 n p.1 Ko) n p.2), (13, fun A Ko => bnd (d13 A) fun p => iterM (st13 n p.1 Ko) n p.2), (10, fun A Ko => bnd (d10 A) fun p => iterM (st10 n p.1 Ko) n p.2)] }
noncomputable def b5 : Code := (cL (cB (c2 (c1 (c2 (c2 (c2 body)))))))
theorem d5_ok (A : Fr) (c : Int × (List (List Int))) (s : Int) (h : d5 A = some (c, s)) : A = F5 c s := by
  unfold d5 at h
  split at h
  · cases h; rfl
  · cases h
theorem step5 (ρ : Type) (n : Nat) (c : Int × (List (List Int))) (Ko : Exit → Fr → Option ρ) (s : Int) (nx : (Int × (List (List Int))) → (Int) → Option ρ) :
    AEO (env n) (answers ρ (used n) (used n)) (tab ρ n) b5 (F5 c s) (thenO (fun A => bnd (d5 (restr (keepOf (env n) b5) A)) fun p => nx p.1 p.2) Ko) = st5 n c Ko s (nx c) := by kernel_rfl
theorem lp5_ok {ρ : Type} (n : Nat) (hl : EntsOK Try.prog gl (used n)) : ∀ (A : Fr) (Ko : Exit → Fr → Option ρ) (r : ρ) (K : Exit → Fr → Prop), (bnd (d5 (restr (keepOf (env n) b5) A)) fun p => iterM (st5 n p.1 Ko) n p.2) = some r → (∀ e A, Ko e A = some r → K e A) → Gx.Sem Try.prog (env n) (.loop b5) A K :=
  fun A Ko r K h hk => loop_cod (P := Try.prog) (E := env n) (T := tab ρ n) (fun _ _ _ h => answers_ok h) F5 d5 (st5 n) d5_ok (show Cov _ (env n) (tab ρ n) b5 from ⟨⟨trivial, ⟨trivial, trivial⟩⟩, ⟨⟨trivial, ⟨⟨trivial, trivial⟩, trivial⟩⟩, trivial⟩⟩) (fun c Ko s nx => step5 ρ n c Ko s nx) n A Ko r K h hk
noncomputable def b17 : Code := (cL (cB (c2 (c1 (c2 (cB (c1 (c2 (cL (cB (c2 (cB (c1 (c2 (cL (cB (c2 (c1 (c2 (c2 (c2 (c2 body))))))))))))))))))))))
theorem d17_ok (A : Fr) (c : Int × (List (List Int)) × Int × Int) (s : Int × Int) (h : d17 A = some (c, s)) : A = F17 c s := by
  unfold d17 at h
  split at h
  · cases h; rfl
  · cases h
theorem step17 (ρ : Type) (n : Nat) (c : Int × (List (List Int)) × Int × Int) (Ko : Exit → Fr → Option ρ) (s : Int × Int) (nx : (Int × (List (List Int)) × Int × Int) → (Int × Int) → Option ρ) :
    AEO (env n) (answers ρ (used n) (used n)) (tab ρ n) b17 (F17 c s) (thenO (fun A => bnd (d17 (restr (keepOf (env n) b17) A)) fun p => nx p.1 p.2) Ko) = st17 n c Ko s (nx c) := by kernel_rfl
theorem lp17_ok {ρ : Type} (n : Nat) (hl : EntsOK Try.prog gl (used n)) : ∀ (A : Fr) (Ko : Exit → Fr → Option ρ) (r : ρ) (K : Exit → Fr → Prop), (bnd (d17 (restr (keepOf (env n) b17) A)) fun p => iterM (st17 n p.1 Ko) n p.2) = some r → (∀ e A, Ko e A = some r → K e A) → Gx.Sem Try.prog (env n) (.loop b17) A K :=
  fun A Ko r K h hk => loop_cod (P := Try.prog) (E := env n) (T := tab ρ n) (fun _ _ _ h => answers_ok h) F17 d17 (st17 n) d17_ok (show Cov _ (env n) (tab ρ n) b17 from ⟨⟨trivial, ⟨trivial, trivial⟩⟩, ⟨⟨trivial, ⟨trivial, ⟨trivial, ⟨trivial, trivial⟩⟩⟩⟩, trivial⟩⟩) (fun c Ko s nx => step17 ρ n c Ko s nx) n A Ko r K h hk
noncomputable def b13 : Code := (cL (cB (c2 (cB (c1 (c2 (cL (cB (c2 (c1 (c2 (c2 (c2 (c2 body))))))))))))))
theorem d13_ok (A : Fr) (c : Int × (List (List Int)) × Int) (s : Int) (h : d13 A = some (c, s)) : A = F13 c s := by
  unfold d13 at h
  split at h
  · cases h; rfl
  · cases h
theorem step13 (ρ : Type) (n : Nat) (c : Int × (List (List Int)) × Int) (Ko : Exit → Fr → Option ρ) (s : Int) (nx : (Int × (List (List Int)) × Int) → (Int) → Option ρ) :
    AEO (env n) (answers ρ (used n) (used n)) (tab ρ n) b13 (F13 c s) (thenO (fun A => bnd (d13 (restr (keepOf (env n) b13) A)) fun p => nx p.1 p.2) Ko) = st13 n c Ko s (nx c) := by kernel_rfl
theorem lp13_ok {ρ : Type} (n : Nat) (hl : EntsOK Try.prog gl (used n)) : ∀ (A : Fr) (Ko : Exit → Fr → Option ρ) (r : ρ) (K : Exit → Fr → Prop), (bnd (d13 (restr (keepOf (env n) b13) A)) fun p => iterM (st13 n p.1 Ko) n p.2) = some r → (∀ e A, Ko e A = some r → K e A) → Gx.Sem Try.prog (env n) (.loop b13) A K :=
  fun A Ko r K h hk => loop_cod (P := Try.prog) (E := env n) (T := tab ρ n) (fun _ _ _ h => answers_ok h) F13 d13 (st13 n) d13_ok (show Cov _ (env n) (tab ρ n) b13 from ⟨⟨trivial, ⟨trivial, trivial⟩⟩, ⟨⟨trivial, ⟨⟨trivial, lp17_ok n hl⟩, ⟨trivial, ⟨⟨trivial, trivial⟩, trivial⟩⟩⟩⟩, trivial⟩⟩) (fun c Ko s nx => step13 ρ n c Ko s nx) n A Ko r K h hk
noncomputable def b10 : Code := (cL (cB (c2 (c1 (c2 (c2 (c2 (c2 body))))))))
theorem d10_ok (A : Fr) (c : Int × (List (List Int))) (s : Int) (h : d10 A = some (c, s)) : A = F10 c s := by
  unfold d10 at h
  split at h
  · cases h; rfl
  · cases h
theorem step10 (ρ : Type) (n : Nat) (c : Int × (List (List Int))) (Ko : Exit → Fr → Option ρ) (s : Int) (nx : (Int × (List (List Int))) → (Int) → Option ρ) :
    AEO (env n) (answers ρ (used n) (used n)) (tab ρ n) b10 (F10 c s) (thenO (fun A => bnd (d10 (restr (keepOf (env n) b10) A)) fun p => nx p.1 p.2) Ko) = st10 n c Ko s (nx c) := by kernel_rfl
theorem lp10_ok {ρ : Type} (n : Nat) (hl : EntsOK Try.prog gl (used n)) : ∀ (A : Fr) (Ko : Exit → Fr → Option ρ) (r : ρ) (K : Exit → Fr → Prop), (bnd (d10 (restr (keepOf (env n) b10) A)) fun p => iterM (st10 n p.1 Ko) n p.2) = some r → (∀ e A, Ko e A = some r → K e A) → Gx.Sem Try.prog (env n) (.loop b10) A K :=
  fun A Ko r K h hk => loop_cod (P := Try.prog) (E := env n) (T := tab ρ n) (fun _ _ _ h => answers_ok h) F10 d10 (st10 n) d10_ok (show Cov _ (env n) (tab ρ n) b10 from ⟨⟨trivial, ⟨trivial, trivial⟩⟩, ⟨⟨trivial, lp13_ok n hl⟩, trivial⟩⟩) (fun c Ko s nx => step10 ρ n c Ko s nx) n A Ko r K h hk
def enc (a : Int × (List (List Int))) : List AV := [.ag [.pv (.int .i64 a.1), .ls (.rows a.2)]]
def dec : List AV → Option (Int × (List (List Int)))
  | [.ag [.pv (.int .i64 toArray0_0), .ls (.rows toArray0_1)]] => some (toArray0_0, toArray0_1)
  | _ => none
def emb (b : Int) : AV × List AV := (.pv (.int .i64 b), [])
def dr : AV → List AV → Option (Int)
  | .pv (.int .i64 r0), [] => some r0
  | _, _ => none
theorem dec_ok (vs : List AV) (a : Int × (List (List Int))) (h : dec vs = some a) : vs = enc a := by
  unfold dec at h
  split at h
  · cases h; rfl
  · cases h
theorem dr_ok (v : AV) (o : List AV) (b : Int) (h : dr v o = some b) : emb b = (v, o) := by
  unfold dr at h
  split at h
  · cases h; rfl
  · cases h
noncomputable def ent (n : Nat) : Ent := { f := 7, ms := [.lend], α := Int × (List (List Int)), β := Int, dec := dec, enc := enc, emb := emb, m := fun a => Gm.ref2_TripleFault n a.1 a.2, hdec := dec_ok }
theorem run (n : Nat) (a : Int × (List (List Int))) : AEO (env n) (answers (Int) (used n) (used n)) (tab (Int) n) body (frameOf (enc a) 0) (bodyO (env n) Try.f7.results.toList (enc a) dr) = (ent n).m a := by kernel_rfl
theorem ok (n : Nat) (hl : EntsOK Try.prog gl (used n)) : EntOK Try.prog gl (ent n) :=
  fnO_sound (P := Try.prog) (e := ent n) (fn := Try.f7) (body := body) (l := used n) (te := te) (gl := gl) (n := ⟨1, 70⟩) (cut := []) (keep := keep) (T := tab (Int) n) (dr := dr) Try.func7 (by kernel_rfl) (by kernel_rfl) te_ok (by kernel_rfl) (by kernel_rfl) hl (show Cov _ (env n) (tab (Int) n) body from ⟨trivial, ⟨trivial, ⟨⟨trivial, ⟨⟨trivial, trivial⟩, trivial⟩⟩, ⟨⟨trivial, lp5_ok n hl⟩, ⟨⟨trivial, lp10_ok n hl⟩, ⟨trivial, trivial⟩⟩⟩⟩⟩⟩) dr_ok (fun a => ⟨rfl, rfl⟩) (run n)
theorem all_ok (n : Nat) : EntOK Try.prog gl (ent n) := ok n ⟨W_ref2_DesignFault.all_ok n, W_ref2_Lies.all_ok n, trivial⟩
end W_ref2_TripleFault
namespace W_design_Check_1
noncomputable def body : Code := Try.f56.body.getD .skip
def keep : List (Nat × List Nat) := []
noncomputable def used (_n : Nat) : List Ent := []
noncomputable def env (n : Nat) : Env := envOf te gl (used n) ⟨3, 12⟩ [] keep
noncomputable def tab (ρ : Type) (_n : Nat) : Tab ρ := { live := [(0, [0, 1]), (1, [3])], xl := [], rl := [3], fz := [], jp := [], lp := [] }
def enc (a : Int × Int × (List (List Int))) : List AV := [.pv (.int .i64 a.1), .lb [.pv (.int .i64 a.2.1), .ls (.rows a.2.2)] 0]
def dec : List AV → Option (Int × Int × (List (List Int)))
  | [.pv (.int .i64 p0), .lb [.pv (.int .i64 t1_0), .ls (.rows t1_1)] 0] => some (p0, t1_0, t1_1)
  | _ => none
def emb (b : Bool) : AV × List AV := (.pv (.bool b), [])
def dr : AV → List AV → Option (Bool)
  | .pv (.bool r0), [] => some r0
  | _, _ => none
theorem dec_ok (vs : List AV) (a : Int × Int × (List (List Int))) (h : dec vs = some a) : vs = enc a := by
  unfold dec at h
  split at h
  · cases h; rfl
  · cases h
theorem dr_ok (v : AV) (o : List AV) (b : Bool) (h : dr v o = some b) : emb b = (v, o) := by
  unfold dr at h
  split at h
  · cases h; rfl
  · cases h
noncomputable def ent (n : Nat) : Ent := { f := 56, ms := [.lend], α := Int × Int × (List (List Int)), β := Bool, dec := dec, enc := enc, emb := emb, m := fun a => Gm.design_Check_1 n a.1 a.2.1 a.2.2, hdec := dec_ok }
theorem run (n : Nat) (a : Int × Int × (List (List Int))) : AEO (env n) (answers (Bool) (used n) (used n)) (tab (Bool) n) body (frameOf (enc a) 0) (bodyO (env n) Try.f56.results.toList (enc a) dr) = (ent n).m a := by kernel_rfl
theorem ok (n : Nat) (hl : EntsOK Try.prog gl (used n)) : EntOK Try.prog gl (ent n) :=
  fnO_sound (P := Try.prog) (e := ent n) (fn := Try.f56) (body := body) (l := used n) (te := te) (gl := gl) (n := ⟨3, 12⟩) (cut := []) (keep := keep) (T := tab (Bool) n) (dr := dr) Try.func56 (by kernel_rfl) (by kernel_rfl) te_ok (by kernel_rfl) (by kernel_rfl) hl (show Cov _ (env n) (tab (Bool) n) body from ⟨trivial, ⟨trivial, trivial⟩⟩) dr_ok (fun a => ⟨rfl, rfl⟩) (run n)
theorem all_ok (n : Nat) : EntOK Try.prog gl (ent n) := ok n trivial
end W_design_Check_1
namespace W_slices_IndexFunc_intint__design_Check_1
noncomputable def body : Code := Try.f48.body.getD .skip
def keep : List (Nat × List Nat) := [(2, [0, 1, 7, 8])]
noncomputable def used (n : Nat) : List Ent := [W_design_Check_1.ent n]
noncomputable def env (n : Nat) : Env := envOf te gl (used n) ⟨4, 19⟩ [] keep
def F2 (c : (List Int) × Int × (List (List Int)) × Int) (s : Int) : Fr := [(0, .ls (.ints .i64 c.1)), (1, .fn 56 [.lb [.pv (.int .i64 c.2.1), .ls (.rows c.2.2.1)] 0]), (7, .pv (.int .i64 c.2.2.2)), (8, .pv (.int .i64 s))]
def d2 : Fr → Option (((List Int) × Int × (List (List Int)) × Int) × (Int))
  | [(0, .ls (.ints .i64 s_0)), (1, .fn 56 [.lb [.pv (.int .i64 f1_0), .ls (.rows f1_1)] 0]), (7, .pv (.int .i64 t7)), (8, .pv (.int .i64 t8))] => some ((s_0, f1_0, f1_1, t7), t8)
  | _ => none
def st2 {ρ : Type} (n : Nat) (c : (List Int) × Int × (List (List Int)) × Int) (Ko : Exit → Fr → Option ρ) (s : Int) (nx : Int → Option ρ) : Option ρ :=
  Gm.slices_IndexFunc_intint__design_Check_1_s2 n c.1 c.2.1 c.2.2.1 c.2.2.2 s nx (fun (y0 : Int) => Ko .ret [(4, .pv (.int .i64 y0))]) (Ko (.exit 0) [])
noncomputable def tab (ρ : Type) (n : Nat) : Tab ρ := { live := [(0, [0, 1]), (1, [0, 1, 7, 8]), (2, [0, 1, 7, 8, 9]), (3, [0, 1, 5, 7, 8]), (4, [0, 1, 5, 7, 8, 16]), (5, [4]), (6, [0, 1, 7, 8]), (7, [4])], xl := [(0, []), (1, [0, 1, 7, 8])], rl := [4], fz := [], jp := [], lp := [(2, fun A Ko => bnd (d2 A) fun p => iterM (st2 n p.1 Ko) n p.2)] }
noncomputable def b2 : Code := (cL (cB (c2 (c1 (c2 body)))))
theorem d2_ok (A : Fr) (c : (List Int) × Int × (List (List Int)) × Int) (s : Int) (h : d2 A = some (c, s)) : A = F2 c s := by
  unfold d2 at h
  split at h
  · cases h; rfl
  · cases h
theorem step2 (ρ : Type) (n : Nat) (c : (List Int) × Int × (List (List Int)) × Int) (Ko : Exit → Fr → Option ρ) (s : Int) (nx : ((List Int) × Int × (List (List Int)) × Int) → (Int) → Option ρ) :
    AEO (env n) (answers ρ (used n) (used n)) (tab ρ n) b2 (F2 c s) (thenO (fun A => bnd (d2 (restr (keepOf (env n) b2) A)) fun p => nx p.1 p.2) Ko) = st2 n c Ko s (nx c) := by kernel_rfl
theorem lp2_ok {ρ : Type} (n : Nat) (hl : EntsOK Try.prog gl (used n)) : ∀ (A : Fr) (Ko : Exit → Fr → Option ρ) (r : ρ) (K : Exit → Fr → Prop), (bnd (d2 (restr (keepOf (env n) b2) A)) fun p => iterM (st2 n p.1 Ko) n p.2) = some r → (∀ e A, Ko e A = some r → K e A) → Gx.Sem Try.prog (env n) (.loop b2) A K :=
  fun A Ko r K h hk => loop_cod (P := Try.prog) (E := env n) (T := tab ρ n) (fun _ _ _ h => answers_ok h) F2 d2 (st2 n) d2_ok (show Cov _ (env n) (tab ρ n) b2 from ⟨trivial, ⟨⟨trivial, trivial⟩, ⟨⟨trivial, ⟨trivial, ⟨⟨trivial, trivial⟩, trivial⟩⟩⟩, trivial⟩⟩⟩) (fun c Ko s nx => step2 ρ n c Ko s nx) n A Ko r K h hk
def enc (a : (List Int) × Int × (List (List Int))) : List AV := [.ls (.ints .i64 a.1), .fn 56 [.lb [.pv (.int .i64 a.2.1), .ls (.rows a.2.2)] 0]]
def dec : List AV → Option ((List Int) × Int × (List (List Int)))
  | [.ls (.ints .i64 s_0), .fn 56 [.lb [.pv (.int .i64 f1_0), .ls (.rows f1_1)] 0]] => some (s_0, f1_0, f1_1)
  | _ => none
def emb (b : Int) : AV × List AV := (.pv (.int .i64 b), [])
def dr : AV → List AV → Option (Int)
  | .pv (.int .i64 r0), [] => some r0
  | _, _ => none
theorem dec_ok (vs : List AV) (a : (List Int) × Int × (List (List Int))) (h : dec vs = some a) : vs = enc a := by
  unfold dec at h
  split at h
  · cases h; rfl
  · cases h
theorem dr_ok (v : AV) (o : List AV) (b : Int) (h : dr v o = some b) : emb b = (v, o) := by
  unfold dr at h
  split at h
  · cases h; rfl
  · cases h
noncomputable def ent (n : Nat) : Ent := { f := 48, ms := [.lend, .lend], α := (List Int) × Int × (List (List Int)), β := Int, dec := dec, enc := enc, emb := emb, m := fun a => Gm.slices_IndexFunc_intint__design_Check_1 n a.1 a.2.1 a.2.2, hdec := dec_ok }
theorem run (n : Nat) (a : (List Int) × Int × (List (List Int))) : AEO (env n) (answers (Int) (used n) (used n)) (tab (Int) n) body (frameOf (enc a) 0) (bodyO (env n) Try.f48.results.toList (enc a) dr) = (ent n).m a := by kernel_rfl
theorem ok (n : Nat) (hl : EntsOK Try.prog gl (used n)) : EntOK Try.prog gl (ent n) :=
  fnO_sound (P := Try.prog) (e := ent n) (fn := Try.f48) (body := body) (l := used n) (te := te) (gl := gl) (n := ⟨4, 19⟩) (cut := []) (keep := keep) (T := tab (Int) n) (dr := dr) Try.func48 (by kernel_rfl) (by kernel_rfl) te_ok (by kernel_rfl) (by kernel_rfl) hl (show Cov _ (env n) (tab (Int) n) body from ⟨trivial, ⟨⟨trivial, lp2_ok n hl⟩, ⟨trivial, trivial⟩⟩⟩) dr_ok (fun a => ⟨rfl, rfl⟩) (run n)
theorem all_ok (n : Nat) : EntOK Try.prog gl (ent n) := ok n ⟨W_design_Check_1.all_ok n, trivial⟩
end W_slices_IndexFunc_intint__design_Check_1
namespace W_slices_ContainsFunc_intint__design_Check_1
noncomputable def body : Code := Try.f27.body.getD .skip
def keep : List (Nat × List Nat) := []
noncomputable def used (n : Nat) : List Ent := [W_slices_IndexFunc_intint__design_Check_1.ent n]
noncomputable def env (n : Nat) : Env := envOf te gl (used n) ⟨4, 9⟩ [] keep
noncomputable def tab (ρ : Type) (_n : Nat) : Tab ρ := { live := [(0, [0, 1]), (1, [4])], xl := [], rl := [4], fz := [], jp := [], lp := [] }
def enc (a : (List Int) × Int × (List (List Int))) : List AV := [.ls (.ints .i64 a.1), .fn 56 [.lb [.pv (.int .i64 a.2.1), .ls (.rows a.2.2)] 0]]
def dec : List AV → Option ((List Int) × Int × (List (List Int)))
  | [.ls (.ints .i64 s_0), .fn 56 [.lb [.pv (.int .i64 f1_0), .ls (.rows f1_1)] 0]] => some (s_0, f1_0, f1_1)
  | _ => none
def emb (b : Bool) : AV × List AV := (.pv (.bool b), [])
def dr : AV → List AV → Option (Bool)
  | .pv (.bool r0), [] => some r0
  | _, _ => none
theorem dec_ok (vs : List AV) (a : (List Int) × Int × (List (List Int))) (h : dec vs = some a) : vs = enc a := by
  unfold dec at h
  split at h
  · cases h; rfl
  · cases h
theorem dr_ok (v : AV) (o : List AV) (b : Bool) (h : dr v o = some b) : emb b = (v, o) := by
  unfold dr at h
  split at h
  · cases h; rfl
  · cases h
noncomputable def ent (n : Nat) : Ent := { f := 27, ms := [.lend, .lend], α := (List Int) × Int × (List (List Int)), β := Bool, dec := dec, enc := enc, emb := emb, m := fun a => Gm.slices_ContainsFunc_intint__design_Check_1 n a.1 a.2.1 a.2.2, hdec := dec_ok }
theorem run (n : Nat) (a : (List Int) × Int × (List (List Int))) : AEO (env n) (answers (Bool) (used n) (used n)) (tab (Bool) n) body (frameOf (enc a) 0) (bodyO (env n) Try.f27.results.toList (enc a) dr) = (ent n).m a := by kernel_rfl
theorem ok (n : Nat) (hl : EntsOK Try.prog gl (used n)) : EntOK Try.prog gl (ent n) :=
  fnO_sound (P := Try.prog) (e := ent n) (fn := Try.f27) (body := body) (l := used n) (te := te) (gl := gl) (n := ⟨4, 9⟩) (cut := []) (keep := keep) (T := tab (Bool) n) (dr := dr) Try.func27 (by kernel_rfl) (by kernel_rfl) te_ok (by kernel_rfl) (by kernel_rfl) hl (show Cov _ (env n) (tab (Bool) n) body from ⟨trivial, ⟨trivial, trivial⟩⟩) dr_ok (fun a => ⟨rfl, rfl⟩) (run n)
theorem all_ok (n : Nat) : EntOK Try.prog gl (ent n) := ok n ⟨W_slices_IndexFunc_intint__design_Check_1.all_ok n, trivial⟩
end W_slices_ContainsFunc_intint__design_Check_1
namespace W_design_Check
noncomputable def body : Code := Try.f38.body.getD .skip
def keep : List (Nat × List Nat) := [(6, [1, 21, 22, 23]), (11, [1, 4, 5, 21, 22, 23])]
noncomputable def used (n : Nat) : List Ent := [W_slices_ContainsFunc_intint__design_Check_1.ent n]
noncomputable def env (n : Nat) : Env := envOf te gl (used n) ⟨1, 47⟩ [] keep
def F11 (c : Int × (List (List Int)) × (List Int) × (List (List Int)) × Int × Int) (s : Int) : Fr := [(1, .bx [.pv (.int .i64 c.1), .ls (.rows c.2.1)]), (4, .sl (.ints .i64 c.2.2.1)), (5, .pv (.int .i64 s)), (21, .ls (.rows c.2.2.2.1)), (22, .pv (.int .i64 c.2.2.2.2.1)), (23, .pv (.int .i64 c.2.2.2.2.2))]
def d11 : Fr → Option ((Int × (List (List Int)) × (List Int) × (List (List Int)) × Int × Int) × (Int))
  | [(1, .bx [.pv (.int .i64 d1_0), .ls (.rows d1_1)]), (4, .sl (.ints .i64 b4)), (5, .pv (.int .i64 i5)), (21, .ls (.rows t21)), (22, .pv (.int .i64 t22)), (23, .pv (.int .i64 t23))] => some ((d1_0, d1_1, b4, t21, t22, t23), i5)
  | _ => none
def st11 {ρ : Type} (n : Nat) (c : Int × (List (List Int)) × (List Int) × (List (List Int)) × Int × Int) (Ko : Exit → Fr → Option ρ) (s : Int) (nx : Int → Option ρ) : Option ρ :=
  Gm.design_Check_s11 n c.1 c.2.1 c.2.2.1 c.2.2.2.1 c.2.2.2.2.1 c.2.2.2.2.2 s nx (Ko .ret [(2, .pv (.int .i64 2))]) (Ko (.exit 3) [(1, .bx [.pv (.int .i64 c.1), .ls (.rows c.2.1)]), (21, .ls (.rows c.2.2.2.1)), (22, .pv (.int .i64 c.2.2.2.2.1)), (23, .pv (.int .i64 c.2.2.2.2.2))])
def F6 (c : Int × (List (List Int)) × (List (List Int)) × Int) (s : Int) : Fr := [(1, .bx [.pv (.int .i64 c.1), .ls (.rows c.2.1)]), (21, .ls (.rows c.2.2.1)), (22, .pv (.int .i64 c.2.2.2)), (23, .pv (.int .i64 s))]
def d6 : Fr → Option ((Int × (List (List Int)) × (List (List Int)) × Int) × (Int))
  | [(1, .bx [.pv (.int .i64 d1_0), .ls (.rows d1_1)]), (21, .ls (.rows t21)), (22, .pv (.int .i64 t22)), (23, .pv (.int .i64 t23))] => some ((d1_0, d1_1, t21, t22), t23)
  | _ => none
def st6 {ρ : Type} (n : Nat) (c : Int × (List (List Int)) × (List (List Int)) × Int) (Ko : Exit → Fr → Option ρ) (s : Int) (nx : Int → Option ρ) : Option ρ :=
  Gm.design_Check_s6 n c.1 c.2.1 c.2.2.1 c.2.2.2 s nx (Ko .ret [(2, .pv (.int .i64 1))]) (Ko .ret [(2, .pv (.int .i64 2))]) (Ko (.exit 1) [])
noncomputable def tab (ρ : Type) (n : Nat) : Tab ρ := { live := [(0, [1]), (1, [1, 6]), (2, [2]), (3, [1, 15]), (4, [2]), (5, [1, 21, 22, 23]), (6, [1, 21, 22, 23, 24]), (7, [1, 4, 21, 22, 23]), (8, [1, 4, 21, 22, 23, 29]), (9, [2]), (10, [1, 4, 5, 21, 22, 23]), (11, [1, 4, 5, 21, 22, 23, 33]), (12, [1, 4, 5, 21, 22, 23]), (13, [1, 4, 5, 21, 22, 23, 45]), (14, [2]), (15, [1, 21, 22, 23]), (16, [2])], xl := [(0, [1]), (1, []), (2, [1, 21, 22, 23]), (3, [1, 21, 22, 23]), (4, [1, 4, 5, 21, 22, 23])], rl := [2], fz := [], jp := [], lp := [(11, fun A Ko => bnd (d11 A) fun p => iterM (st11 n p.1 Ko) n p.2), (6, fun A Ko => bnd (d6 A) fun p => iterM (st6 n p.1 Ko) n p.2)] }
noncomputable def b11 : Code := (cL (cB (c2 (c2 (c2 (cB (c1 (c2 (c2 (cL (cB (c2 (c1 (c2 (c2 body)))))))))))))))
theorem d11_ok (A : Fr) (c : Int × (List (List Int)) × (List Int) × (List (List Int)) × Int × Int) (s : Int) (h : d11 A = some (c, s)) : A = F11 c s := by
  unfold d11 at h
  split at h
  · cases h; rfl
  · cases h
theorem step11 (ρ : Type) (n : Nat) (c : Int × (List (List Int)) × (List Int) × (List (List Int)) × Int × Int) (Ko : Exit → Fr → Option ρ) (s : Int) (nx : (Int × (List (List Int)) × (List Int) × (List (List Int)) × Int × Int) → (Int) → Option ρ) :
    AEO (env n) (answers ρ (used n) (used n)) (tab ρ n) b11 (F11 c s) (thenO (fun A => bnd (d11 (restr (keepOf (env n) b11) A)) fun p => nx p.1 p.2) Ko) = st11 n c Ko s (nx c) := by kernel_rfl
theorem lp11_ok {ρ : Type} (n : Nat) (hl : EntsOK Try.prog gl (used n)) : ∀ (A : Fr) (Ko : Exit → Fr → Option ρ) (r : ρ) (K : Exit → Fr → Prop), (bnd (d11 (restr (keepOf (env n) b11) A)) fun p => iterM (st11 n p.1 Ko) n p.2) = some r → (∀ e A, Ko e A = some r → K e A) → Gx.Sem Try.prog (env n) (.loop b11) A K :=
  fun A Ko r K h hk => loop_cod (P := Try.prog) (E := env n) (T := tab ρ n) (fun _ _ _ h => answers_ok h) F11 d11 (st11 n) d11_ok (show Cov _ (env n) (tab ρ n) b11 from ⟨⟨trivial, ⟨trivial, trivial⟩⟩, ⟨⟨trivial, ⟨⟨trivial, trivial⟩, trivial⟩⟩, trivial⟩⟩) (fun c Ko s nx => step11 ρ n c Ko s nx) n A Ko r K h hk
noncomputable def b6 : Code := (cL (cB (c2 (c1 (c2 (c2 body))))))
theorem d6_ok (A : Fr) (c : Int × (List (List Int)) × (List (List Int)) × Int) (s : Int) (h : d6 A = some (c, s)) : A = F6 c s := by
  unfold d6 at h
  split at h
  · cases h; rfl
  · cases h
theorem step6 (ρ : Type) (n : Nat) (c : Int × (List (List Int)) × (List (List Int)) × Int) (Ko : Exit → Fr → Option ρ) (s : Int) (nx : (Int × (List (List Int)) × (List (List Int)) × Int) → (Int) → Option ρ) :
    AEO (env n) (answers ρ (used n) (used n)) (tab ρ n) b6 (F6 c s) (thenO (fun A => bnd (d6 (restr (keepOf (env n) b6) A)) fun p => nx p.1 p.2) Ko) = st6 n c Ko s (nx c) := by kernel_rfl
theorem lp6_ok {ρ : Type} (n : Nat) (hl : EntsOK Try.prog gl (used n)) : ∀ (A : Fr) (Ko : Exit → Fr → Option ρ) (r : ρ) (K : Exit → Fr → Prop), (bnd (d6 (restr (keepOf (env n) b6) A)) fun p => iterM (st6 n p.1 Ko) n p.2) = some r → (∀ e A, Ko e A = some r → K e A) → Gx.Sem Try.prog (env n) (.loop b6) A K :=
  fun A Ko r K h hk => loop_cod (P := Try.prog) (E := env n) (T := tab ρ n) (fun _ _ _ h => answers_ok h) F6 d6 (st6 n) d6_ok (show Cov _ (env n) (tab ρ n) b6 from ⟨trivial, ⟨⟨trivial, trivial⟩, ⟨⟨trivial, ⟨⟨trivial, ⟨⟨trivial, trivial⟩, trivial⟩⟩, ⟨trivial, lp11_ok n hl⟩⟩⟩, trivial⟩⟩⟩) (fun c Ko s nx => step6 ρ n c Ko s nx) n A Ko r K h hk
def enc (a : Int × (List (List Int))) : List AV := [.ag [.pv (.int .i64 a.1), .ls (.rows a.2)]]
def dec : List AV → Option (Int × (List (List Int)))
  | [.ag [.pv (.int .i64 d0_0), .ls (.rows d0_1)]] => some (d0_0, d0_1)
  | _ => none
def emb (b : Int) : AV × List AV := (.pv (.int .i64 b), [])
def dr : AV → List AV → Option (Int)
  | .pv (.int .i64 r0), [] => some r0
  | _, _ => none
theorem dec_ok (vs : List AV) (a : Int × (List (List Int))) (h : dec vs = some a) : vs = enc a := by
  unfold dec at h
  split at h
  · cases h; rfl
  · cases h
theorem dr_ok (v : AV) (o : List AV) (b : Int) (h : dr v o = some b) : emb b = (v, o) := by
  unfold dr at h
  split at h
  · cases h; rfl
  · cases h
noncomputable def ent (n : Nat) : Ent := { f := 38, ms := [.lend], α := Int × (List (List Int)), β := Int, dec := dec, enc := enc, emb := emb, m := fun a => Gm.design_Check n a.1 a.2, hdec := dec_ok }
theorem run (n : Nat) (a : Int × (List (List Int))) : AEO (env n) (answers (Int) (used n) (used n)) (tab (Int) n) body (frameOf (enc a) 0) (bodyO (env n) Try.f38.results.toList (enc a) dr) = (ent n).m a := by kernel_rfl
theorem ok (n : Nat) (hl : EntsOK Try.prog gl (used n)) : EntOK Try.prog gl (ent n) :=
  fnO_sound (P := Try.prog) (e := ent n) (fn := Try.f38) (body := body) (l := used n) (te := te) (gl := gl) (n := ⟨1, 47⟩) (cut := []) (keep := keep) (T := tab (Int) n) (dr := dr) Try.func38 (by kernel_rfl) (by kernel_rfl) te_ok (by kernel_rfl) (by kernel_rfl) hl (show Cov _ (env n) (tab (Int) n) body from ⟨trivial, ⟨⟨trivial, ⟨⟨trivial, trivial⟩, ⟨trivial, ⟨⟨trivial, trivial⟩, trivial⟩⟩⟩⟩, ⟨⟨trivial, lp6_ok n hl⟩, ⟨trivial, trivial⟩⟩⟩⟩) dr_ok (fun a => ⟨rfl, rfl⟩) (run n)
theorem all_ok (n : Nat) : EntOK Try.prog gl (ent n) := ok n ⟨W_slices_ContainsFunc_intint__design_Check_1.all_ok n, trivial⟩
end W_design_Check
namespace W_triple_open_1
noncomputable def body : Code := Try.f46.body.getD .skip
def keep : List (Nat × List Nat) := []
noncomputable def used (_n : Nat) : List Ent := []
noncomputable def env (n : Nat) : Env := envOf te gl (used n) ⟨2, 6⟩ [] keep
noncomputable def tab (ρ : Type) (_n : Nat) : Tab ρ := { live := [(0, [0]), (1, [2])], xl := [], rl := [2], fz := [], jp := [], lp := [] }
def enc (a : List Int) : List AV := [.ls (.ints .i64 a)]
def dec : List AV → Option (List Int)
  | [.ls (.ints .i64 b0)] => some b0
  | _ => none
def emb (b : Bool) : AV × List AV := (.pv (.bool b), [])
def dr : AV → List AV → Option (Bool)
  | .pv (.bool r0), [] => some r0
  | _, _ => none
theorem dec_ok (vs : List AV) (a : List Int) (h : dec vs = some a) : vs = enc a := by
  unfold dec at h
  split at h
  · cases h; rfl
  · cases h
theorem dr_ok (v : AV) (o : List AV) (b : Bool) (h : dr v o = some b) : emb b = (v, o) := by
  unfold dr at h
  split at h
  · cases h; rfl
  · cases h
noncomputable def ent (n : Nat) : Ent := { f := 46, ms := [.lend], α := List Int, β := Bool, dec := dec, enc := enc, emb := emb, m := fun a => Gm.triple_open_1 n a, hdec := dec_ok }
theorem run (n : Nat) (a : List Int) : AEO (env n) (answers (Bool) (used n) (used n)) (tab (Bool) n) body (frameOf (enc a) 0) (bodyO (env n) Try.f46.results.toList (enc a) dr) = (ent n).m a := by kernel_rfl
theorem ok (n : Nat) (hl : EntsOK Try.prog gl (used n)) : EntOK Try.prog gl (ent n) :=
  fnO_sound (P := Try.prog) (e := ent n) (fn := Try.f46) (body := body) (l := used n) (te := te) (gl := gl) (n := ⟨2, 6⟩) (cut := []) (keep := keep) (T := tab (Bool) n) (dr := dr) Try.func46 (by kernel_rfl) (by kernel_rfl) te_ok (by kernel_rfl) (by kernel_rfl) hl (show Cov _ (env n) (tab (Bool) n) body from ⟨trivial, ⟨trivial, trivial⟩⟩) dr_ok (fun a => ⟨rfl, rfl⟩) (run n)
theorem all_ok (n : Nat) : EntOK Try.prog gl (ent n) := ok n trivial
end W_triple_open_1
namespace W_slices_IndexFunc_intint__triple_open_1
noncomputable def body : Code := Try.f57.body.getD .skip
def keep : List (Nat × List Nat) := [(2, [0, 1, 7, 8])]
noncomputable def used (n : Nat) : List Ent := [W_triple_open_1.ent n]
noncomputable def env (n : Nat) : Env := envOf te gl (used n) ⟨4, 19⟩ [] keep
def F2 (c : (List (List Int)) × Int) (s : Int) : Fr := [(0, .ls (.rows c.1)), (1, .fn 46 []), (7, .pv (.int .i64 c.2)), (8, .pv (.int .i64 s))]
def d2 : Fr → Option (((List (List Int)) × Int) × (Int))
  | [(0, .ls (.rows s_0)), (1, .fn 46 []), (7, .pv (.int .i64 t7)), (8, .pv (.int .i64 t8))] => some ((s_0, t7), t8)
  | _ => none
def st2 {ρ : Type} (n : Nat) (c : (List (List Int)) × Int) (Ko : Exit → Fr → Option ρ) (s : Int) (nx : Int → Option ρ) : Option ρ :=
  Gm.slices_IndexFunc_intint__triple_open_1_s2 n c.1 c.2 s nx (fun (y0 : Int) => Ko .ret [(4, .pv (.int .i64 y0))]) (Ko (.exit 0) [])
noncomputable def tab (ρ : Type) (n : Nat) : Tab ρ := { live := [(0, [0, 1]), (1, [0, 1, 7, 8]), (2, [0, 1, 7, 8, 9]), (3, [0, 1, 5, 7, 8]), (4, [0, 1, 5, 7, 8, 16]), (5, [4]), (6, [0, 1, 7, 8]), (7, [4])], xl := [(0, []), (1, [0, 1, 7, 8])], rl := [4], fz := [], jp := [], lp := [(2, fun A Ko => bnd (d2 A) fun p => iterM (st2 n p.1 Ko) n p.2)] }
noncomputable def b2 : Code := (cL (cB (c2 (c1 (c2 body)))))
theorem d2_ok (A : Fr) (c : (List (List Int)) × Int) (s : Int) (h : d2 A = some (c, s)) : A = F2 c s := by
  unfold d2 at h
  split at h
  · cases h; rfl
  · cases h
theorem step2 (ρ : Type) (n : Nat) (c : (List (List Int)) × Int) (Ko : Exit → Fr → Option ρ) (s : Int) (nx : ((List (List Int)) × Int) → (Int) → Option ρ) :
    AEO (env n) (answers ρ (used n) (used n)) (tab ρ n) b2 (F2 c s) (thenO (fun A => bnd (d2 (restr (keepOf (env n) b2) A)) fun p => nx p.1 p.2) Ko) = st2 n c Ko s (nx c) := by kernel_rfl
theorem lp2_ok {ρ : Type} (n : Nat) (hl : EntsOK Try.prog gl (used n)) : ∀ (A : Fr) (Ko : Exit → Fr → Option ρ) (r : ρ) (K : Exit → Fr → Prop), (bnd (d2 (restr (keepOf (env n) b2) A)) fun p => iterM (st2 n p.1 Ko) n p.2) = some r → (∀ e A, Ko e A = some r → K e A) → Gx.Sem Try.prog (env n) (.loop b2) A K :=
  fun A Ko r K h hk => loop_cod (P := Try.prog) (E := env n) (T := tab ρ n) (fun _ _ _ h => answers_ok h) F2 d2 (st2 n) d2_ok (show Cov _ (env n) (tab ρ n) b2 from ⟨trivial, ⟨⟨trivial, trivial⟩, ⟨⟨trivial, ⟨trivial, ⟨⟨trivial, trivial⟩, trivial⟩⟩⟩, trivial⟩⟩⟩) (fun c Ko s nx => step2 ρ n c Ko s nx) n A Ko r K h hk
def enc (a : List (List Int)) : List AV := [.ls (.rows a), .fn 46 []]
def dec : List AV → Option (List (List Int))
  | [.ls (.rows s_0), .fn 46 []] => some s_0
  | _ => none
def emb (b : Int) : AV × List AV := (.pv (.int .i64 b), [])
def dr : AV → List AV → Option (Int)
  | .pv (.int .i64 r0), [] => some r0
  | _, _ => none
theorem dec_ok (vs : List AV) (a : List (List Int)) (h : dec vs = some a) : vs = enc a := by
  unfold dec at h
  split at h
  · cases h; rfl
  · cases h
theorem dr_ok (v : AV) (o : List AV) (b : Int) (h : dr v o = some b) : emb b = (v, o) := by
  unfold dr at h
  split at h
  · cases h; rfl
  · cases h
noncomputable def ent (n : Nat) : Ent := { f := 57, ms := [.lend, .lend], α := List (List Int), β := Int, dec := dec, enc := enc, emb := emb, m := fun a => Gm.slices_IndexFunc_intint__triple_open_1 n a, hdec := dec_ok }
theorem run (n : Nat) (a : List (List Int)) : AEO (env n) (answers (Int) (used n) (used n)) (tab (Int) n) body (frameOf (enc a) 0) (bodyO (env n) Try.f57.results.toList (enc a) dr) = (ent n).m a := by kernel_rfl
theorem ok (n : Nat) (hl : EntsOK Try.prog gl (used n)) : EntOK Try.prog gl (ent n) :=
  fnO_sound (P := Try.prog) (e := ent n) (fn := Try.f57) (body := body) (l := used n) (te := te) (gl := gl) (n := ⟨4, 19⟩) (cut := []) (keep := keep) (T := tab (Int) n) (dr := dr) Try.func57 (by kernel_rfl) (by kernel_rfl) te_ok (by kernel_rfl) (by kernel_rfl) hl (show Cov _ (env n) (tab (Int) n) body from ⟨trivial, ⟨⟨trivial, lp2_ok n hl⟩, ⟨trivial, trivial⟩⟩⟩) dr_ok (fun a => ⟨rfl, rfl⟩) (run n)
theorem all_ok (n : Nat) : EntOK Try.prog gl (ent n) := ok n ⟨W_triple_open_1.all_ok n, trivial⟩
end W_slices_IndexFunc_intint__triple_open_1
namespace W_slices_ContainsFunc_intint__triple_open_1
noncomputable def body : Code := Try.f39.body.getD .skip
def keep : List (Nat × List Nat) := []
noncomputable def used (n : Nat) : List Ent := [W_slices_IndexFunc_intint__triple_open_1.ent n]
noncomputable def env (n : Nat) : Env := envOf te gl (used n) ⟨4, 9⟩ [] keep
noncomputable def tab (ρ : Type) (_n : Nat) : Tab ρ := { live := [(0, [0, 1]), (1, [4])], xl := [], rl := [4], fz := [], jp := [], lp := [] }
def enc (a : List (List Int)) : List AV := [.ls (.rows a), .fn 46 []]
def dec : List AV → Option (List (List Int))
  | [.ls (.rows s_0), .fn 46 []] => some s_0
  | _ => none
def emb (b : Bool) : AV × List AV := (.pv (.bool b), [])
def dr : AV → List AV → Option (Bool)
  | .pv (.bool r0), [] => some r0
  | _, _ => none
theorem dec_ok (vs : List AV) (a : List (List Int)) (h : dec vs = some a) : vs = enc a := by
  unfold dec at h
  split at h
  · cases h; rfl
  · cases h
theorem dr_ok (v : AV) (o : List AV) (b : Bool) (h : dr v o = some b) : emb b = (v, o) := by
  unfold dr at h
  split at h
  · cases h; rfl
  · cases h
noncomputable def ent (n : Nat) : Ent := { f := 39, ms := [.lend, .lend], α := List (List Int), β := Bool, dec := dec, enc := enc, emb := emb, m := fun a => Gm.slices_ContainsFunc_intint__triple_open_1 n a, hdec := dec_ok }
theorem run (n : Nat) (a : List (List Int)) : AEO (env n) (answers (Bool) (used n) (used n)) (tab (Bool) n) body (frameOf (enc a) 0) (bodyO (env n) Try.f39.results.toList (enc a) dr) = (ent n).m a := by kernel_rfl
theorem ok (n : Nat) (hl : EntsOK Try.prog gl (used n)) : EntOK Try.prog gl (ent n) :=
  fnO_sound (P := Try.prog) (e := ent n) (fn := Try.f39) (body := body) (l := used n) (te := te) (gl := gl) (n := ⟨4, 9⟩) (cut := []) (keep := keep) (T := tab (Bool) n) (dr := dr) Try.func39 (by kernel_rfl) (by kernel_rfl) te_ok (by kernel_rfl) (by kernel_rfl) hl (show Cov _ (env n) (tab (Bool) n) body from ⟨trivial, ⟨trivial, trivial⟩⟩) dr_ok (fun a => ⟨rfl, rfl⟩) (run n)
theorem all_ok (n : Nat) : EntOK Try.prog gl (ent n) := ok n ⟨W_slices_IndexFunc_intint__triple_open_1.all_ok n, trivial⟩
end W_slices_ContainsFunc_intint__triple_open_1
namespace W_triple_open
noncomputable def body : Code := Try.f22.body.getD .skip
def keep : List (Nat × List Nat) := []
noncomputable def used (n : Nat) : List Ent := [W_design_Check.ent n, W_slices_ContainsFunc_intint__triple_open_1.ent n, W_triple_third.ent n]
noncomputable def env (n : Nat) : Env := envOf te gl (used n) ⟨1, 40⟩ [] keep
noncomputable def tab (ρ : Type) (_n : Nat) : Tab ρ := { live := [(0, [1, 2]), (1, [1, 2, 4]), (2, [1, 2, 4, 10]), (3, [2, 3]), (4, [1, 2, 15]), (5, [2, 3]), (6, [1, 2, 5, 6]), (7, [2, 5, 37]), (8, [2, 3]), (9, [2, 3])], xl := [], rl := [2, 3], fz := [], jp := [], lp := [] }
def enc (a : Int × (List (List Int))) : List AV := [.ag [.pv (.int .i64 a.1), .ls (.rows a.2)]]
def dec : List AV → Option (Int × (List (List Int)))
  | [.ag [.pv (.int .i64 d0_0), .ls (.rows d0_1)]] => some (d0_0, d0_1)
  | _ => none
def emb (b : (List Int) × Int) : AV × List AV := (.tp [.aa (.ints .i64 b.1), .pv (.int .i64 b.2)], [])
def dr : AV → List AV → Option ((List Int) × Int)
  | .tp [.aa (.ints .i64 r0), .pv (.int .i64 r1)], [] => some (r0, r1)
  | _, _ => none
theorem dec_ok (vs : List AV) (a : Int × (List (List Int))) (h : dec vs = some a) : vs = enc a := by
  unfold dec at h
  split at h
  · cases h; rfl
  · cases h
theorem dr_ok (v : AV) (o : List AV) (b : (List Int) × Int) (h : dr v o = some b) : emb b = (v, o) := by
  unfold dr at h
  split at h
  · cases h; rfl
  · cases h
noncomputable def ent (n : Nat) : Ent := { f := 22, ms := [.lend], α := Int × (List (List Int)), β := (List Int) × Int, dec := dec, enc := enc, emb := emb, m := fun a => Gm.triple_open n a.1 a.2, hdec := dec_ok }
theorem run (n : Nat) (a : Int × (List (List Int))) : AEO (env n) (answers ((List Int) × Int) (used n) (used n)) (tab ((List Int) × Int) n) body (frameOf (enc a) 0) (bodyO (env n) Try.f22.results.toList (enc a) dr) = (ent n).m a := by kernel_rfl
theorem ok (n : Nat) (hl : EntsOK Try.prog gl (used n)) : EntOK Try.prog gl (ent n) :=
  fnO_sound (P := Try.prog) (e := ent n) (fn := Try.f22) (body := body) (l := used n) (te := te) (gl := gl) (n := ⟨1, 40⟩) (cut := []) (keep := keep) (T := tab ((List Int) × Int) n) (dr := dr) Try.func22 (by kernel_rfl) (by kernel_rfl) te_ok (by kernel_rfl) (by kernel_rfl) hl (show Cov _ (env n) (tab ((List Int) × Int) n) body from ⟨trivial, ⟨⟨trivial, ⟨trivial, ⟨⟨trivial, trivial⟩, trivial⟩⟩⟩, ⟨⟨trivial, ⟨⟨trivial, trivial⟩, trivial⟩⟩, ⟨trivial, ⟨⟨trivial, ⟨⟨trivial, trivial⟩, trivial⟩⟩, ⟨trivial, trivial⟩⟩⟩⟩⟩⟩) dr_ok (fun a => ⟨rfl, rfl⟩) (run n)
theorem all_ok (n : Nat) : EntOK Try.prog gl (ent n) := ok n ⟨W_design_Check.all_ok n, W_slices_ContainsFunc_intint__triple_open_1.all_ok n, W_triple_third.all_ok n, trivial⟩
end W_triple_open
namespace W_slices_Index_intint
noncomputable def body : Code := Try.f47.body.getD .skip
def keep : List (Nat × List Nat) := [(2, [0, 1, 7, 8])]
noncomputable def used (_n : Nat) : List Ent := []
noncomputable def env (n : Nat) : Env := envOf te gl (used n) ⟨4, 19⟩ [] keep
def F2 (c : (List Int) × Int × Int) (s : Int) : Fr := [(0, .ls (.ints .i64 c.1)), (1, .pv (.int .i64 c.2.1)), (7, .pv (.int .i64 c.2.2)), (8, .pv (.int .i64 s))]
def d2 : Fr → Option (((List Int) × Int × Int) × (Int))
  | [(0, .ls (.ints .i64 s_0)), (1, .pv (.int .i64 v1)), (7, .pv (.int .i64 t7)), (8, .pv (.int .i64 t8))] => some ((s_0, v1, t7), t8)
  | _ => none
def st2 {ρ : Type} (n : Nat) (c : (List Int) × Int × Int) (Ko : Exit → Fr → Option ρ) (s : Int) (nx : Int → Option ρ) : Option ρ :=
  Gm.slices_Index_intint_s2 n c.1 c.2.1 c.2.2 s nx (fun (y0 : Int) => Ko .ret [(4, .pv (.int .i64 y0))]) (Ko (.exit 0) [])
noncomputable def tab (ρ : Type) (n : Nat) : Tab ρ := { live := [(0, [0, 1]), (1, [0, 1, 7, 8]), (2, [0, 1, 7, 8, 9]), (3, [0, 1, 5, 7, 8]), (4, [0, 1, 5, 7, 8, 16]), (5, [4]), (6, [0, 1, 7, 8]), (7, [4])], xl := [(0, []), (1, [0, 1, 7, 8])], rl := [4], fz := [], jp := [], lp := [(2, fun A Ko => bnd (d2 A) fun p => iterM (st2 n p.1 Ko) n p.2)] }
noncomputable def b2 : Code := (cL (cB (c2 (c1 (c2 body)))))
theorem d2_ok (A : Fr) (c : (List Int) × Int × Int) (s : Int) (h : d2 A = some (c, s)) : A = F2 c s := by
  unfold d2 at h
  split at h
  · cases h; rfl
  · cases h
theorem step2 (ρ : Type) (n : Nat) (c : (List Int) × Int × Int) (Ko : Exit → Fr → Option ρ) (s : Int) (nx : ((List Int) × Int × Int) → (Int) → Option ρ) :
    AEO (env n) (answers ρ (used n) (used n)) (tab ρ n) b2 (F2 c s) (thenO (fun A => bnd (d2 (restr (keepOf (env n) b2) A)) fun p => nx p.1 p.2) Ko) = st2 n c Ko s (nx c) := by kernel_rfl
theorem lp2_ok {ρ : Type} (n : Nat) (hl : EntsOK Try.prog gl (used n)) : ∀ (A : Fr) (Ko : Exit → Fr → Option ρ) (r : ρ) (K : Exit → Fr → Prop), (bnd (d2 (restr (keepOf (env n) b2) A)) fun p => iterM (st2 n p.1 Ko) n p.2) = some r → (∀ e A, Ko e A = some r → K e A) → Gx.Sem Try.prog (env n) (.loop b2) A K :=
  fun A Ko r K h hk => loop_cod (P := Try.prog) (E := env n) (T := tab ρ n) (fun _ _ _ h => answers_ok h) F2 d2 (st2 n) d2_ok (show Cov _ (env n) (tab ρ n) b2 from ⟨trivial, ⟨⟨trivial, trivial⟩, ⟨⟨trivial, ⟨trivial, ⟨⟨trivial, trivial⟩, trivial⟩⟩⟩, trivial⟩⟩⟩) (fun c Ko s nx => step2 ρ n c Ko s nx) n A Ko r K h hk
def enc (a : (List Int) × Int) : List AV := [.ls (.ints .i64 a.1), .pv (.int .i64 a.2)]
def dec : List AV → Option ((List Int) × Int)
  | [.ls (.ints .i64 s_0), .pv (.int .i64 v1)] => some (s_0, v1)
  | _ => none
def emb (b : Int) : AV × List AV := (.pv (.int .i64 b), [])
def dr : AV → List AV → Option (Int)
  | .pv (.int .i64 r0), [] => some r0
  | _, _ => none
theorem dec_ok (vs : List AV) (a : (List Int) × Int) (h : dec vs = some a) : vs = enc a := by
  unfold dec at h
  split at h
  · cases h; rfl
  · cases h
theorem dr_ok (v : AV) (o : List AV) (b : Int) (h : dr v o = some b) : emb b = (v, o) := by
  unfold dr at h
  split at h
  · cases h; rfl
  · cases h
noncomputable def ent (n : Nat) : Ent := { f := 47, ms := [.lend, .lend], α := (List Int) × Int, β := Int, dec := dec, enc := enc, emb := emb, m := fun a => Gm.slices_Index_intint n a.1 a.2, hdec := dec_ok }
theorem run (n : Nat) (a : (List Int) × Int) : AEO (env n) (answers (Int) (used n) (used n)) (tab (Int) n) body (frameOf (enc a) 0) (bodyO (env n) Try.f47.results.toList (enc a) dr) = (ent n).m a := by kernel_rfl
theorem ok (n : Nat) (hl : EntsOK Try.prog gl (used n)) : EntOK Try.prog gl (ent n) :=
  fnO_sound (P := Try.prog) (e := ent n) (fn := Try.f47) (body := body) (l := used n) (te := te) (gl := gl) (n := ⟨4, 19⟩) (cut := []) (keep := keep) (T := tab (Int) n) (dr := dr) Try.func47 (by kernel_rfl) (by kernel_rfl) te_ok (by kernel_rfl) (by kernel_rfl) hl (show Cov _ (env n) (tab (Int) n) body from ⟨trivial, ⟨⟨trivial, lp2_ok n hl⟩, ⟨trivial, trivial⟩⟩⟩) dr_ok (fun a => ⟨rfl, rfl⟩) (run n)
theorem all_ok (n : Nat) : EntOK Try.prog gl (ent n) := ok n trivial
end W_slices_Index_intint
namespace W_slices_Contains_intint
noncomputable def body : Code := Try.f23.body.getD .skip
def keep : List (Nat × List Nat) := []
noncomputable def used (n : Nat) : List Ent := [W_slices_Index_intint.ent n]
noncomputable def env (n : Nat) : Env := envOf te gl (used n) ⟨4, 9⟩ [] keep
noncomputable def tab (ρ : Type) (_n : Nat) : Tab ρ := { live := [(0, [0, 1]), (1, [4])], xl := [], rl := [4], fz := [], jp := [], lp := [] }
def enc (a : (List Int) × Int) : List AV := [.ls (.ints .i64 a.1), .pv (.int .i64 a.2)]
def dec : List AV → Option ((List Int) × Int)
  | [.ls (.ints .i64 s_0), .pv (.int .i64 v1)] => some (s_0, v1)
  | _ => none
def emb (b : Bool) : AV × List AV := (.pv (.bool b), [])
def dr : AV → List AV → Option (Bool)
  | .pv (.bool r0), [] => some r0
  | _, _ => none
theorem dec_ok (vs : List AV) (a : (List Int) × Int) (h : dec vs = some a) : vs = enc a := by
  unfold dec at h
  split at h
  · cases h; rfl
  · cases h
theorem dr_ok (v : AV) (o : List AV) (b : Bool) (h : dr v o = some b) : emb b = (v, o) := by
  unfold dr at h
  split at h
  · cases h; rfl
  · cases h
noncomputable def ent (n : Nat) : Ent := { f := 23, ms := [.lend, .lend], α := (List Int) × Int, β := Bool, dec := dec, enc := enc, emb := emb, m := fun a => Gm.slices_Contains_intint n a.1 a.2, hdec := dec_ok }
theorem run (n : Nat) (a : (List Int) × Int) : AEO (env n) (answers (Bool) (used n) (used n)) (tab (Bool) n) body (frameOf (enc a) 0) (bodyO (env n) Try.f23.results.toList (enc a) dr) = (ent n).m a := by kernel_rfl
theorem ok (n : Nat) (hl : EntsOK Try.prog gl (used n)) : EntOK Try.prog gl (ent n) :=
  fnO_sound (P := Try.prog) (e := ent n) (fn := Try.f23) (body := body) (l := used n) (te := te) (gl := gl) (n := ⟨4, 9⟩) (cut := []) (keep := keep) (T := tab (Bool) n) (dr := dr) Try.func23 (by kernel_rfl) (by kernel_rfl) te_ok (by kernel_rfl) (by kernel_rfl) hl (show Cov _ (env n) (tab (Bool) n) body from ⟨trivial, ⟨trivial, trivial⟩⟩) dr_ok (fun a => ⟨rfl, rfl⟩) (run n)
theorem all_ok (n : Nat) : EntOK Try.prog gl (ent n) := ok n ⟨W_slices_Index_intint.all_ok n, trivial⟩
end W_slices_Contains_intint
namespace W_triple_others
noncomputable def body : Code := Try.f24.body.getD .skip
def keep : List (Nat × List Nat) := []
noncomputable def used (n : Nat) : List Ent := [W_slices_Index_intint.ent n]
noncomputable def env (n : Nat) : Env := envOf te gl (used n) ⟨4, 22⟩ [] keep
noncomputable def tab (ρ : Type) (_n : Nat) : Tab ρ := { live := [(0, [0, 1]), (1, [0, 6]), (2, [4, 5])], xl := [], rl := [4, 5], fz := [], jp := [], lp := [] }
def enc (a : (List Int) × Int) : List AV := [.ls (.ints .i64 a.1), .pv (.int .i64 a.2)]
def dec : List AV → Option ((List Int) × Int)
  | [.ls (.ints .i64 b0), .pv (.int .i64 p1)] => some (b0, p1)
  | _ => none
def emb (b : Int × Int) : AV × List AV := (.tp [.pv (.int .i64 b.1), .pv (.int .i64 b.2)], [])
def dr : AV → List AV → Option (Int × Int)
  | .tp [.pv (.int .i64 r0), .pv (.int .i64 r1)], [] => some (r0, r1)
  | _, _ => none
theorem dec_ok (vs : List AV) (a : (List Int) × Int) (h : dec vs = some a) : vs = enc a := by
  unfold dec at h
  split at h
  · cases h; rfl
  · cases h
theorem dr_ok (v : AV) (o : List AV) (b : Int × Int) (h : dr v o = some b) : emb b = (v, o) := by
  unfold dr at h
  split at h
  · cases h; rfl
  · cases h
noncomputable def ent (n : Nat) : Ent := { f := 24, ms := [.lend, .lend], α := (List Int) × Int, β := Int × Int, dec := dec, enc := enc, emb := emb, m := fun a => Gm.triple_others n a.1 a.2, hdec := dec_ok }
theorem run (n : Nat) (a : (List Int) × Int) : AEO (env n) (answers (Int × Int) (used n) (used n)) (tab (Int × Int) n) body (frameOf (enc a) 0) (bodyO (env n) Try.f24.results.toList (enc a) dr) = (ent n).m a := by kernel_rfl
theorem ok (n : Nat) (hl : EntsOK Try.prog gl (used n)) : EntOK Try.prog gl (ent n) :=
  fnO_sound (P := Try.prog) (e := ent n) (fn := Try.f24) (body := body) (l := used n) (te := te) (gl := gl) (n := ⟨4, 22⟩) (cut := []) (keep := keep) (T := tab (Int × Int) n) (dr := dr) Try.func24 (by kernel_rfl) (by kernel_rfl) te_ok (by kernel_rfl) (by kernel_rfl) hl (show Cov _ (env n) (tab (Int × Int) n) body from ⟨trivial, ⟨trivial, ⟨trivial, trivial⟩⟩⟩) dr_ok (fun a => ⟨rfl, rfl⟩) (run n)
theorem all_ok (n : Nat) : EntOK Try.prog gl (ent n) := ok n ⟨W_slices_Index_intint.all_ok n, trivial⟩
end W_triple_others
namespace W_triple_Passes
noncomputable def body : Code := Try.f8.body.getD .skip
def keep : List (Nat × List Nat) := [(6, [1, 4, 6, 28, 29]), (10, [1, 4, 6, 7, 8, 28, 29, 33, 34, 35]), (16, [1, 4, 6, 7, 8, 28, 29, 47, 48, 49]), (20, [1, 4, 6, 7, 8, 13, 14, 28, 29, 47, 48, 49, 62, 63, 64])]
noncomputable def used (n : Nat) : List Ent := [W_triple_open.ent n, W_slices_Contains_intint.ent n, W_triple_others.ent n]
noncomputable def env (n : Nat) : Env := envOf te gl (used n) ⟨1, 105⟩ [] keep
def F10 (c : Int × (List (List Int)) × (List Int) × Int × Int × Int × Int × (List (List Int)) × Int) (s : (List (List Int)) × Int) : Fr := [(1, .bx [.pv (.int .i64 c.1), .ls (.rows c.2.1)]), (4, .ba (.ints .i64 c.2.2.1)), (6, .pv (.int .i64 c.2.2.2.1)), (7, .pv (.int .i64 c.2.2.2.2.1)), (8, .ow 41 (.rows s.1)), (28, .pv (.int .i64 c.2.2.2.2.2.1)), (29, .pv (.int .i64 c.2.2.2.2.2.2.1)), (33, .ls (.rows c.2.2.2.2.2.2.2.1)), (34, .pv (.int .i64 c.2.2.2.2.2.2.2.2)), (35, .pv (.int .i64 s.2))]
def d10 : Fr → Option ((Int × (List (List Int)) × (List Int) × Int × Int × Int × Int × (List (List Int)) × Int) × ((List (List Int)) × Int))
  | [(1, .bx [.pv (.int .i64 t1_0), .ls (.rows t1_1)]), (4, .ba (.ints .i64 t4)), (6, .pv (.int .i64 t6)), (7, .pv (.int .i64 t7)), (8, .ow 41 (.rows t8)), (28, .pv (.int .i64 t28)), (29, .pv (.int .i64 t29)), (33, .ls (.rows t33)), (34, .pv (.int .i64 t34)), (35, .pv (.int .i64 t35))] => some ((t1_0, t1_1, t4, t6, t7, t28, t29, t33, t34), (t8, t35))
  | _ => none
def st10 {ρ : Type} (n : Nat) (c : Int × (List (List Int)) × (List Int) × Int × Int × Int × Int × (List (List Int)) × Int) (Ko : Exit → Fr → Option ρ) (s : (List (List Int)) × Int) (nx : ((List (List Int)) × Int) → Option ρ) : Option ρ :=
  Gm.triple_Passes_s10 n c.1 c.2.1 c.2.2.1 c.2.2.2.1 c.2.2.2.2.1 c.2.2.2.2.2.1 c.2.2.2.2.2.2.1 c.2.2.2.2.2.2.2.1 c.2.2.2.2.2.2.2.2 s.1 s.2 (fun a0 a1 => nx (a0, a1)) (fun (y0 : List (List Int)) => Ko (.exit 2) [(1, .bx [.pv (.int .i64 c.1), .ls (.rows c.2.1)]), (4, .ba (.ints .i64 c.2.2.1)), (6, .pv (.int .i64 c.2.2.2.1)), (7, .pv (.int .i64 c.2.2.2.2.1)), (8, .ow 41 (.rows y0)), (28, .pv (.int .i64 c.2.2.2.2.2.1)), (29, .pv (.int .i64 c.2.2.2.2.2.2.1))])
def F20 (c : Int × (List (List Int)) × (List Int) × Int × (List (List Int)) × Int × Int × Int × Int × (List (List Int)) × Int × Int × (List (List Int)) × Int) (s : Int × Int) : Fr := [(1, .bx [.pv (.int .i64 c.1), .ls (.rows c.2.1)]), (4, .ba (.ints .i64 c.2.2.1)), (6, .pv (.int .i64 s.1)), (7, .pv (.int .i64 c.2.2.2.1)), (8, .sl (.rows c.2.2.2.2.1)), (13, .pv (.int .i64 c.2.2.2.2.2.1)), (14, .pv (.int .i64 c.2.2.2.2.2.2.1)), (28, .pv (.int .i64 c.2.2.2.2.2.2.2.1)), (29, .pv (.int .i64 c.2.2.2.2.2.2.2.2.1)), (47, .sl (.rows c.2.2.2.2.2.2.2.2.2.1)), (48, .pv (.int .i64 c.2.2.2.2.2.2.2.2.2.2.1)), (49, .pv (.int .i64 c.2.2.2.2.2.2.2.2.2.2.2.1)), (62, .sl (.rows c.2.2.2.2.2.2.2.2.2.2.2.2.1)), (63, .pv (.int .i64 c.2.2.2.2.2.2.2.2.2.2.2.2.2)), (64, .pv (.int .i64 s.2))]
def d20 : Fr → Option ((Int × (List (List Int)) × (List Int) × Int × (List (List Int)) × Int × Int × Int × Int × (List (List Int)) × Int × Int × (List (List Int)) × Int) × (Int × Int))
  | [(1, .bx [.pv (.int .i64 t1_0), .ls (.rows t1_1)]), (4, .ba (.ints .i64 t4)), (6, .pv (.int .i64 t6)), (7, .pv (.int .i64 t7)), (8, .sl (.rows t8)), (13, .pv (.int .i64 t13)), (14, .pv (.int .i64 t14)), (28, .pv (.int .i64 t28)), (29, .pv (.int .i64 t29)), (47, .sl (.rows t47)), (48, .pv (.int .i64 t48)), (49, .pv (.int .i64 t49)), (62, .sl (.rows t62)), (63, .pv (.int .i64 t63)), (64, .pv (.int .i64 t64))] => some ((t1_0, t1_1, t4, t7, t8, t13, t14, t28, t29, t47, t48, t49, t62, t63), (t6, t64))
  | _ => none
def st20 {ρ : Type} (n : Nat) (c : Int × (List (List Int)) × (List Int) × Int × (List (List Int)) × Int × Int × Int × Int × (List (List Int)) × Int × Int × (List (List Int)) × Int) (Ko : Exit → Fr → Option ρ) (s : Int × Int) (nx : (Int × Int) → Option ρ) : Option ρ :=
  Gm.triple_Passes_s20 n c.1 c.2.1 c.2.2.1 c.2.2.2.1 c.2.2.2.2.1 c.2.2.2.2.2.1 c.2.2.2.2.2.2.1 c.2.2.2.2.2.2.2.1 c.2.2.2.2.2.2.2.2.1 c.2.2.2.2.2.2.2.2.2.1 c.2.2.2.2.2.2.2.2.2.2.1 c.2.2.2.2.2.2.2.2.2.2.2.1 c.2.2.2.2.2.2.2.2.2.2.2.2.1 c.2.2.2.2.2.2.2.2.2.2.2.2.2 s.1 s.2 (fun a0 a1 => nx (a0, a1)) (fun (y0 : Int) => Ko (.exit 6) [(1, .bx [.pv (.int .i64 c.1), .ls (.rows c.2.1)]), (4, .ba (.ints .i64 c.2.2.1)), (6, .pv (.int .i64 y0)), (7, .pv (.int .i64 c.2.2.2.1)), (8, .sl (.rows c.2.2.2.2.1)), (28, .pv (.int .i64 c.2.2.2.2.2.2.2.1)), (29, .pv (.int .i64 c.2.2.2.2.2.2.2.2.1)), (47, .sl (.rows c.2.2.2.2.2.2.2.2.2.1)), (48, .pv (.int .i64 c.2.2.2.2.2.2.2.2.2.2.1)), (49, .pv (.int .i64 c.2.2.2.2.2.2.2.2.2.2.2.1))])
def F16 (c : Int × (List (List Int)) × (List Int) × Int × (List (List Int)) × Int × Int × (List (List Int)) × Int) (s : Int × Int) : Fr := [(1, .bx [.pv (.int .i64 c.1), .ls (.rows c.2.1)]), (4, .ba (.ints .i64 c.2.2.1)), (6, .pv (.int .i64 s.1)), (7, .pv (.int .i64 c.2.2.2.1)), (8, .sl (.rows c.2.2.2.2.1)), (28, .pv (.int .i64 c.2.2.2.2.2.1)), (29, .pv (.int .i64 c.2.2.2.2.2.2.1)), (47, .sl (.rows c.2.2.2.2.2.2.2.1)), (48, .pv (.int .i64 c.2.2.2.2.2.2.2.2)), (49, .pv (.int .i64 s.2))]
def d16 : Fr → Option ((Int × (List (List Int)) × (List Int) × Int × (List (List Int)) × Int × Int × (List (List Int)) × Int) × (Int × Int))
  | [(1, .bx [.pv (.int .i64 t1_0), .ls (.rows t1_1)]), (4, .ba (.ints .i64 t4)), (6, .pv (.int .i64 t6)), (7, .pv (.int .i64 t7)), (8, .sl (.rows t8)), (28, .pv (.int .i64 t28)), (29, .pv (.int .i64 t29)), (47, .sl (.rows t47)), (48, .pv (.int .i64 t48)), (49, .pv (.int .i64 t49))] => some ((t1_0, t1_1, t4, t7, t8, t28, t29, t47, t48), (t6, t49))
  | _ => none
def st16 {ρ : Type} (n : Nat) (c : Int × (List (List Int)) × (List Int) × Int × (List (List Int)) × Int × Int × (List (List Int)) × Int) (Ko : Exit → Fr → Option ρ) (s : Int × Int) (nx : (Int × Int) → Option ρ) : Option ρ :=
  Gm.triple_Passes_s16 n c.1 c.2.1 c.2.2.1 c.2.2.2.1 c.2.2.2.2.1 c.2.2.2.2.2.1 c.2.2.2.2.2.2.1 c.2.2.2.2.2.2.2.1 c.2.2.2.2.2.2.2.2 s.1 s.2 (fun a0 a1 => nx (a0, a1)) (fun (y0 : Int) => Ko (.exit 4) [(1, .bx [.pv (.int .i64 c.1), .ls (.rows c.2.1)]), (4, .ba (.ints .i64 c.2.2.1)), (6, .pv (.int .i64 y0)), (28, .pv (.int .i64 c.2.2.2.2.2.1)), (29, .pv (.int .i64 c.2.2.2.2.2.2.1))])
def F6 (c : Int × (List (List Int)) × (List Int) × Int) (s : Int × Int) : Fr := [(1, .bx [.pv (.int .i64 c.1), .ls (.rows c.2.1)]), (4, .ba (.ints .i64 c.2.2.1)), (6, .pv (.int .i64 s.1)), (28, .pv (.int .i64 c.2.2.2)), (29, .pv (.int .i64 s.2))]
def d6 : Fr → Option ((Int × (List (List Int)) × (List Int) × Int) × (Int × Int))
  | [(1, .bx [.pv (.int .i64 t1_0), .ls (.rows t1_1)]), (4, .ba (.ints .i64 t4)), (6, .pv (.int .i64 t6)), (28, .pv (.int .i64 t28)), (29, .pv (.int .i64 t29))] => some ((t1_0, t1_1, t4, t28), (t6, t29))
  | _ => none
def st6 {ρ : Type} (n : Nat) (c : Int × (List (List Int)) × (List Int) × Int) (Ko : Exit → Fr → Option ρ) (s : Int × Int) (nx : (Int × Int) → Option ρ) : Option ρ :=
  Gm.triple_Passes_s6 n c.1 c.2.1 c.2.2.1 c.2.2.2 s.1 s.2 (fun a0 a1 => nx (a0, a1)) (fun (y0 : Int) => Ko (.exit 0) [(6, .pv (.int .i64 y0))])
noncomputable def tab (ρ : Type) (n : Nat) : Tab ρ := { live := [(0, [1]), (1, [1, 4, 5]), (2, [1, 4, 5, 25]), (3, [2, 3]), (4, [1, 4, 6]), (5, [1, 4, 6, 28, 29]), (6, [1, 4, 6, 28, 29, 30]), (7, [1, 4, 6, 7, 28, 29]), (8, [1, 4, 6, 7, 8, 28, 29]), (9, [1, 4, 6, 7, 8, 28, 29, 33, 34, 35]), (10, [1, 4, 6, 7, 8, 28, 29, 33, 34, 35, 36]), (11, [1, 4, 6, 7, 8, 10, 28, 29, 33, 34, 35]), (12, [1, 4, 6, 7, 8, 10, 28, 29, 33, 34, 35, 41]), (13, [1, 4, 6, 7, 8, 28, 29, 33, 34, 35]), (14, [1, 4, 6, 7, 8, 28, 29, 33, 34, 35]), (15, [1, 4, 6, 7, 8, 28, 29, 47, 48, 49]), (16, [1, 4, 6, 7, 8, 28, 29, 47, 48, 49, 50]), (17, [1, 4, 6, 7, 8, 11, 12, 28, 29, 47, 48, 49]), (18, [1, 4, 6, 7, 8, 11, 13, 14, 28, 29, 47, 48, 49]), (19, [1, 4, 6, 7, 8, 13, 14, 28, 29, 47, 48, 49, 62, 63, 64]), (20, [1, 4, 6, 7, 8, 13, 14, 28, 29, 47, 48, 49, 62, 63, 64, 65]), (21, [1, 4, 6, 7, 8, 13, 14, 16, 28, 29, 47, 48, 49, 62, 63, 64]), (22, [1, 4, 6, 7, 8, 13, 14, 17, 18, 28, 29, 47, 48, 49, 62, 63, 64]), (23, [1, 4, 6, 7, 8, 13, 14, 17, 18, 28, 29, 47, 48, 49, 62, 63, 64, 84]), (24, [1, 4, 6, 7, 8, 13, 14, 17, 18, 28, 29, 47, 48, 49, 62, 63, 64]), (25, [1, 4, 6, 7, 8, 13, 14, 28, 29, 47, 48, 49, 62, 63, 64, 97]), (26, [1, 4, 6, 7, 8, 13, 14, 28, 29, 47, 48, 49, 62, 63, 64]), (27, [1, 4, 6, 7, 8, 13, 14, 28, 29, 47, 48, 49, 62, 63, 64]), (28, [1, 4, 6, 7, 8, 28, 29, 47, 48, 49]), (29, [1, 4, 6, 28, 29]), (30, [2, 3])], xl := [(0, [6]), (1, [1, 4, 6, 28, 29]), (2, [1, 4, 6, 7, 8, 28, 29]), (3, [1, 4, 6, 7, 8, 28, 29, 33, 34, 35]), (4, [1, 4, 6, 28, 29]), (5, [1, 4, 6, 7, 8, 28, 29, 47, 48, 49]), (6, [1, 4, 6, 7, 8, 28, 29, 47, 48, 49]), (7, [1, 4, 6, 7, 8, 13, 14, 28, 29, 47, 48, 49, 62, 63, 64])], rl := [2, 3], fz := [(16, [47])], jp := [], lp := [(10, fun A Ko => bnd (d10 A) fun p => iterM (st10 n p.1 Ko) n p.2), (20, fun A Ko => bnd (d20 A) fun p => iterM (st20 n p.1 Ko) n p.2), (16, fun A Ko => bnd (d16 A) fun p => iterM (st16 n p.1 Ko) n p.2), (6, fun A Ko => bnd (d6 A) fun p => iterM (st6 n p.1 Ko) n p.2)] }
noncomputable def b10 : Code := (cL (cB (c2 (c1 (c2 (c2 (cB (c1 (c2 (c2 (cL (cB (c2 (c1 (c2 (c2 (c2 (c2 body))))))))))))))))))
theorem d10_ok (A : Fr) (c : Int × (List (List Int)) × (List Int) × Int × Int × Int × Int × (List (List Int)) × Int) (s : (List (List Int)) × Int) (h : d10 A = some (c, s)) : A = F10 c s := by
  unfold d10 at h
  split at h
  · cases h; rfl
  · cases h
theorem step10 (ρ : Type) (n : Nat) (c : Int × (List (List Int)) × (List Int) × Int × Int × Int × Int × (List (List Int)) × Int) (Ko : Exit → Fr → Option ρ) (s : (List (List Int)) × Int) (nx : (Int × (List (List Int)) × (List Int) × Int × Int × Int × Int × (List (List Int)) × Int) → ((List (List Int)) × Int) → Option ρ) :
    AEO (env n) (answers ρ (used n) (used n)) (tab ρ n) b10 (F10 c s) (thenO (fun A => bnd (d10 (restr (keepOf (env n) b10) A)) fun p => nx p.1 p.2) Ko) = st10 n c Ko s (nx c) := by kernel_rfl
theorem lp10_ok {ρ : Type} (n : Nat) (hl : EntsOK Try.prog gl (used n)) : ∀ (A : Fr) (Ko : Exit → Fr → Option ρ) (r : ρ) (K : Exit → Fr → Prop), (bnd (d10 (restr (keepOf (env n) b10) A)) fun p => iterM (st10 n p.1 Ko) n p.2) = some r → (∀ e A, Ko e A = some r → K e A) → Gx.Sem Try.prog (env n) (.loop b10) A K :=
  fun A Ko r K h hk => loop_cod (P := Try.prog) (E := env n) (T := tab ρ n) (fun _ _ _ h => answers_ok h) F10 d10 (st10 n) d10_ok (show Cov _ (env n) (tab ρ n) b10 from ⟨trivial, ⟨⟨trivial, trivial⟩, ⟨⟨trivial, ⟨trivial, ⟨trivial, trivial⟩⟩⟩, trivial⟩⟩⟩) (fun c Ko s nx => step10 ρ n c Ko s nx) n A Ko r K h hk
noncomputable def b20 : Code := (cL (cB (c2 (c2 (c2 (cB (c1 (c2 (c2 (cL (cB (c2 (c2 (c2 (c2 (cB (c1 (c2 (c2 (cL (cB (c2 (c1 (c2 (c2 (c2 (c2 body)))))))))))))))))))))))))))
theorem d20_ok (A : Fr) (c : Int × (List (List Int)) × (List Int) × Int × (List (List Int)) × Int × Int × Int × Int × (List (List Int)) × Int × Int × (List (List Int)) × Int) (s : Int × Int) (h : d20 A = some (c, s)) : A = F20 c s := by
  unfold d20 at h
  split at h
  · cases h; rfl
  · cases h
theorem step20 (ρ : Type) (n : Nat) (c : Int × (List (List Int)) × (List Int) × Int × (List (List Int)) × Int × Int × Int × Int × (List (List Int)) × Int × Int × (List (List Int)) × Int) (Ko : Exit → Fr → Option ρ) (s : Int × Int) (nx : (Int × (List (List Int)) × (List Int) × Int × (List (List Int)) × Int × Int × Int × Int × (List (List Int)) × Int × Int × (List (List Int)) × Int) → (Int × Int) → Option ρ) :
    AEO (env n) (answers ρ (used n) (used n)) (tab ρ n) b20 (F20 c s) (thenO (fun A => bnd (d20 (restr (keepOf (env n) b20) A)) fun p => nx p.1 p.2) Ko) = st20 n c Ko s (nx c) := by kernel_rfl
theorem lp20_ok {ρ : Type} (n : Nat) (hl : EntsOK Try.prog gl (used n)) : ∀ (A : Fr) (Ko : Exit → Fr → Option ρ) (r : ρ) (K : Exit → Fr → Prop), (bnd (d20 (restr (keepOf (env n) b20) A)) fun p => iterM (st20 n p.1 Ko) n p.2) = some r → (∀ e A, Ko e A = some r → K e A) → Gx.Sem Try.prog (env n) (.loop b20) A K :=
  fun A Ko r K h hk => loop_cod (P := Try.prog) (E := env n) (T := tab ρ n) (fun _ _ _ h => answers_ok h) F20 d20 (st20 n) d20_ok (show Cov _ (env n) (tab ρ n) b20 from ⟨trivial, ⟨⟨trivial, trivial⟩, ⟨⟨trivial, ⟨trivial, ⟨⟨trivial, ⟨trivial, trivial⟩⟩, ⟨trivial, ⟨trivial, trivial⟩⟩⟩⟩⟩, trivial⟩⟩⟩) (fun c Ko s nx => step20 ρ n c Ko s nx) n A Ko r K h hk
noncomputable def b16 : Code := (cL (cB (c2 (c2 (c2 (c2 (cB (c1 (c2 (c2 (cL (cB (c2 (c1 (c2 (c2 (c2 (c2 body))))))))))))))))))
theorem d16_ok (A : Fr) (c : Int × (List (List Int)) × (List Int) × Int × (List (List Int)) × Int × Int × (List (List Int)) × Int) (s : Int × Int) (h : d16 A = some (c, s)) : A = F16 c s := by
  unfold d16 at h
  split at h
  · cases h; rfl
  · cases h
theorem step16 (ρ : Type) (n : Nat) (c : Int × (List (List Int)) × (List Int) × Int × (List (List Int)) × Int × Int × (List (List Int)) × Int) (Ko : Exit → Fr → Option ρ) (s : Int × Int) (nx : (Int × (List (List Int)) × (List Int) × Int × (List (List Int)) × Int × Int × (List (List Int)) × Int) → (Int × Int) → Option ρ) :
    AEO (env n) (answers ρ (used n) (used n)) (tab ρ n) b16 (F16 c s) (thenO (fun A => bnd (d16 (restr (keepOf (env n) b16) A)) fun p => nx p.1 p.2) Ko) = st16 n c Ko s (nx c) := by kernel_rfl
theorem lp16_ok {ρ : Type} (n : Nat) (hl : EntsOK Try.prog gl (used n)) : ∀ (A : Fr) (Ko : Exit → Fr → Option ρ) (r : ρ) (K : Exit → Fr → Prop), (bnd (d16 (restr (keepOf (env n) b16) A)) fun p => iterM (st16 n p.1 Ko) n p.2) = some r → (∀ e A, Ko e A = some r → K e A) → Gx.Sem Try.prog (env n) (.loop b16) A K :=
  fun A Ko r K h hk => loop_cod (P := Try.prog) (E := env n) (T := tab ρ n) (fun _ _ _ h => answers_ok h) F16 d16 (st16 n) d16_ok (show Cov _ (env n) (tab ρ n) b16 from ⟨trivial, ⟨⟨trivial, trivial⟩, ⟨⟨trivial, ⟨trivial, ⟨trivial, lp20_ok n hl⟩⟩⟩, trivial⟩⟩⟩) (fun c Ko s nx => step16 ρ n c Ko s nx) n A Ko r K h hk
noncomputable def b6 : Code := (cL (cB (c2 (c1 (c2 (c2 (c2 (c2 body))))))))
theorem d6_ok (A : Fr) (c : Int × (List (List Int)) × (List Int) × Int) (s : Int × Int) (h : d6 A = some (c, s)) : A = F6 c s := by
  unfold d6 at h
  split at h
  · cases h; rfl
  · cases h
theorem step6 (ρ : Type) (n : Nat) (c : Int × (List (List Int)) × (List Int) × Int) (Ko : Exit → Fr → Option ρ) (s : Int × Int) (nx : (Int × (List (List Int)) × (List Int) × Int) → (Int × Int) → Option ρ) :
    AEO (env n) (answers ρ (used n) (used n)) (tab ρ n) b6 (F6 c s) (thenO (fun A => bnd (d6 (restr (keepOf (env n) b6) A)) fun p => nx p.1 p.2) Ko) = st6 n c Ko s (nx c) := by kernel_rfl
theorem lp6_ok {ρ : Type} (n : Nat) (hl : EntsOK Try.prog gl (used n)) : ∀ (A : Fr) (Ko : Exit → Fr → Option ρ) (r : ρ) (K : Exit → Fr → Prop), (bnd (d6 (restr (keepOf (env n) b6) A)) fun p => iterM (st6 n p.1 Ko) n p.2) = some r → (∀ e A, Ko e A = some r → K e A) → Gx.Sem Try.prog (env n) (.loop b6) A K :=
  fun A Ko r K h hk => loop_cod (P := Try.prog) (E := env n) (T := tab ρ n) (fun _ _ _ h => answers_ok h) F6 d6 (st6 n) d6_ok (show Cov _ (env n) (tab ρ n) b6 from ⟨trivial, ⟨⟨trivial, trivial⟩, ⟨⟨trivial, ⟨trivial, ⟨⟨trivial, lp10_ok n hl⟩, ⟨trivial, lp16_ok n hl⟩⟩⟩⟩, trivial⟩⟩⟩) (fun c Ko s nx => step6 ρ n c Ko s nx) n A Ko r K h hk
def enc (a : Int × (List (List Int))) : List AV := [.ag [.pv (.int .i64 a.1), .ls (.rows a.2)]]
def dec : List AV → Option (Int × (List (List Int)))
  | [.ag [.pv (.int .i64 toArray0_0), .ls (.rows toArray0_1)]] => some (toArray0_0, toArray0_1)
  | _ => none
def emb (b : Int × Int) : AV × List AV := (.tp [.pv (.int .i64 b.1), .pv (.int .i64 b.2)], [])
def dr : AV → List AV → Option (Int × Int)
  | .tp [.pv (.int .i64 r0), .pv (.int .i64 r1)], [] => some (r0, r1)
  | _, _ => none
theorem dec_ok (vs : List AV) (a : Int × (List (List Int))) (h : dec vs = some a) : vs = enc a := by
  unfold dec at h
  split at h
  · cases h; rfl
  · cases h
theorem dr_ok (v : AV) (o : List AV) (b : Int × Int) (h : dr v o = some b) : emb b = (v, o) := by
  unfold dr at h
  split at h
  · cases h; rfl
  · cases h
noncomputable def ent (n : Nat) : Ent := { f := 8, ms := [.lend], α := Int × (List (List Int)), β := Int × Int, dec := dec, enc := enc, emb := emb, m := fun a => Gm.triple_Passes n a.1 a.2, hdec := dec_ok }
theorem run (n : Nat) (a : Int × (List (List Int))) : AEO (env n) (answers (Int × Int) (used n) (used n)) (tab (Int × Int) n) body (frameOf (enc a) 0) (bodyO (env n) Try.f8.results.toList (enc a) dr) = (ent n).m a := by kernel_rfl
theorem ok (n : Nat) (hl : EntsOK Try.prog gl (used n)) : EntOK Try.prog gl (ent n) :=
  fnO_sound (P := Try.prog) (e := ent n) (fn := Try.f8) (body := body) (l := used n) (te := te) (gl := gl) (n := ⟨1, 105⟩) (cut := []) (keep := keep) (T := tab (Int × Int) n) (dr := dr) Try.func8 (by kernel_rfl) (by kernel_rfl) te_ok (by kernel_rfl) (by kernel_rfl) hl (show Cov _ (env n) (tab (Int × Int) n) body from ⟨trivial, ⟨trivial, ⟨⟨trivial, ⟨⟨trivial, trivial⟩, trivial⟩⟩, ⟨trivial, ⟨⟨trivial, lp6_ok n hl⟩, ⟨trivial, trivial⟩⟩⟩⟩⟩⟩) dr_ok (fun a => ⟨rfl, rfl⟩) (run n)
theorem all_ok (n : Nat) : EntOK Try.prog gl (ent n) := ok n ⟨W_triple_open.all_ok n, W_slices_Contains_intint.all_ok n, W_triple_others.all_ok n, trivial⟩
end W_triple_Passes
namespace W_ref2_pasch
noncomputable def body : Code := Try.f26.body.getD .skip
def keep : List (Nat × List Nat) := [(3, [1, 2, 5, 6]), (6, [1, 2, 5, 6, 7]), (10, [2, 5, 8])]
noncomputable def used (_n : Nat) : List Ent := []
noncomputable def env (n : Nat) : Env := envOf te gl (used n) ⟨2, 54⟩ [] keep
def F6 (c : (List Int) × Int × (List (List Int)) × Int) (s : (List Int) × Int) : Fr := [(1, .ls (.ints .i64 c.1)), (2, .bx [.pv (.int .i64 c.2.1), .ls (.rows c.2.2.1)]), (5, .ow 3 (.ints .i64 s.1)), (6, .pv (.int .i64 c.2.2.2)), (7, .pv (.int .i64 s.2))]
def d6 : Fr → Option (((List Int) × Int × (List (List Int)) × Int) × ((List Int) × Int))
  | [(1, .ls (.ints .i64 four1)), (2, .bx [.pv (.int .i64 d2_0), .ls (.rows d2_1)]), (5, .ow 3 (.ints .i64 in_5)), (6, .pv (.int .i64 i6)), (7, .pv (.int .i64 j7))] => some ((four1, d2_0, d2_1, i6), (in_5, j7))
  | _ => none
def st6 {ρ : Type} (n : Nat) (c : (List Int) × Int × (List (List Int)) × Int) (Ko : Exit → Fr → Option ρ) (s : (List Int) × Int) (nx : ((List Int) × Int) → Option ρ) : Option ρ :=
  Gm.ref2_pasch_s6 n c.1 c.2.1 c.2.2.1 c.2.2.2 s.1 s.2 (fun a0 a1 => nx (a0, a1)) (fun (y0 : List Int) => Ko (.exit 2) [(1, .ls (.ints .i64 c.1)), (2, .bx [.pv (.int .i64 c.2.1), .ls (.rows c.2.2.1)]), (5, .ow 3 (.ints .i64 y0)), (6, .pv (.int .i64 c.2.2.2))])
def F3 (c : (List Int) × Int × (List (List Int))) (s : (List Int) × Int) : Fr := [(1, .ls (.ints .i64 c.1)), (2, .bx [.pv (.int .i64 c.2.1), .ls (.rows c.2.2)]), (5, .ow 3 (.ints .i64 s.1)), (6, .pv (.int .i64 s.2))]
def d3 : Fr → Option (((List Int) × Int × (List (List Int))) × ((List Int) × Int))
  | [(1, .ls (.ints .i64 four1)), (2, .bx [.pv (.int .i64 d2_0), .ls (.rows d2_1)]), (5, .ow 3 (.ints .i64 in_5)), (6, .pv (.int .i64 i6))] => some ((four1, d2_0, d2_1), (in_5, i6))
  | _ => none
def st3 {ρ : Type} (n : Nat) (c : (List Int) × Int × (List (List Int))) (Ko : Exit → Fr → Option ρ) (s : (List Int) × Int) (nx : ((List Int) × Int) → Option ρ) : Option ρ :=
  Gm.ref2_pasch_s3 n c.1 c.2.1 c.2.2 s.1 s.2 (fun a0 a1 => nx (a0, a1)) (fun (y0 : List Int) => Ko (.exit 0) [(2, .bx [.pv (.int .i64 c.2.1), .ls (.rows c.2.2)]), (5, .ow 3 (.ints .i64 y0))])
def F10 (c : Int × (List (List Int)) × (List Int)) (s : Int) : Fr := [(2, .bx [.pv (.int .i64 c.1), .ls (.rows c.2.1)]), (5, .ow 3 (.ints .i64 c.2.2)), (8, .pv (.int .i64 s))]
def d10 : Fr → Option ((Int × (List (List Int)) × (List Int)) × (Int))
  | [(2, .bx [.pv (.int .i64 d2_0), .ls (.rows d2_1)]), (5, .ow 3 (.ints .i64 in_5)), (8, .pv (.int .i64 x8))] => some ((d2_0, d2_1, in_5), x8)
  | _ => none
def st10 {ρ : Type} (n : Nat) (c : Int × (List (List Int)) × (List Int)) (Ko : Exit → Fr → Option ρ) (s : Int) (nx : Int → Option ρ) : Option ρ :=
  Gm.ref2_pasch_s10 n c.1 c.2.1 c.2.2 s nx (Ko .ret [(4, .pv (.bool false))]) (Ko (.exit 4) [])
noncomputable def tab (ρ : Type) (n : Nat) : Tab ρ := { live := [(0, [1, 2]), (1, [1, 2, 5]), (2, [1, 2, 5, 6]), (3, [1, 2, 5, 6, 13]), (4, [1, 2, 5, 6]), (5, [1, 2, 5, 6, 7]), (6, [1, 2, 5, 6, 7, 17]), (7, [1, 2, 5, 6, 7]), (8, [1, 2, 5, 6, 7]), (9, [2, 5, 8]), (10, [2, 5, 8, 39]), (11, [2, 5, 8]), (12, [2, 5, 8, 53]), (13, [4]), (14, [4])], xl := [(0, [2, 5]), (1, [1, 2, 5, 6]), (2, [1, 2, 5, 6]), (3, [1, 2, 5, 6, 7]), (4, []), (5, [2, 5, 8])], rl := [4], fz := [], jp := [], lp := [(6, fun A Ko => bnd (d6 A) fun p => iterM (st6 n p.1 Ko) n p.2), (3, fun A Ko => bnd (d3 A) fun p => iterM (st3 n p.1 Ko) n p.2), (10, fun A Ko => bnd (d10 A) fun p => iterM (st10 n p.1 Ko) n p.2)] }
noncomputable def b6 : Code := (cL (cB (c2 (cB (c1 (c2 (cL (cB (c2 (c1 (c2 (c2 body))))))))))))
theorem d6_ok (A : Fr) (c : (List Int) × Int × (List (List Int)) × Int) (s : (List Int) × Int) (h : d6 A = some (c, s)) : A = F6 c s := by
  unfold d6 at h
  split at h
  · cases h; rfl
  · cases h
theorem step6 (ρ : Type) (n : Nat) (c : (List Int) × Int × (List (List Int)) × Int) (Ko : Exit → Fr → Option ρ) (s : (List Int) × Int) (nx : ((List Int) × Int × (List (List Int)) × Int) → ((List Int) × Int) → Option ρ) :
    AEO (env n) (answers ρ (used n) (used n)) (tab ρ n) b6 (F6 c s) (thenO (fun A => bnd (d6 (restr (keepOf (env n) b6) A)) fun p => nx p.1 p.2) Ko) = st6 n c Ko s (nx c) := by kernel_rfl
theorem lp6_ok {ρ : Type} (n : Nat) (hl : EntsOK Try.prog gl (used n)) : ∀ (A : Fr) (Ko : Exit → Fr → Option ρ) (r : ρ) (K : Exit → Fr → Prop), (bnd (d6 (restr (keepOf (env n) b6) A)) fun p => iterM (st6 n p.1 Ko) n p.2) = some r → (∀ e A, Ko e A = some r → K e A) → Gx.Sem Try.prog (env n) (.loop b6) A K :=
  fun A Ko r K h hk => loop_cod (P := Try.prog) (E := env n) (T := tab ρ n) (fun _ _ _ h => answers_ok h) F6 d6 (st6 n) d6_ok (show Cov _ (env n) (tab ρ n) b6 from ⟨⟨trivial, ⟨trivial, trivial⟩⟩, ⟨trivial, trivial⟩⟩) (fun c Ko s nx => step6 ρ n c Ko s nx) n A Ko r K h hk
noncomputable def b3 : Code := (cL (cB (c2 (c1 (c2 (c2 body))))))
theorem d3_ok (A : Fr) (c : (List Int) × Int × (List (List Int))) (s : (List Int) × Int) (h : d3 A = some (c, s)) : A = F3 c s := by
  unfold d3 at h
  split at h
  · cases h; rfl
  · cases h
theorem step3 (ρ : Type) (n : Nat) (c : (List Int) × Int × (List (List Int))) (Ko : Exit → Fr → Option ρ) (s : (List Int) × Int) (nx : ((List Int) × Int × (List (List Int))) → ((List Int) × Int) → Option ρ) :
    AEO (env n) (answers ρ (used n) (used n)) (tab ρ n) b3 (F3 c s) (thenO (fun A => bnd (d3 (restr (keepOf (env n) b3) A)) fun p => nx p.1 p.2) Ko) = st3 n c Ko s (nx c) := by kernel_rfl
theorem lp3_ok {ρ : Type} (n : Nat) (hl : EntsOK Try.prog gl (used n)) : ∀ (A : Fr) (Ko : Exit → Fr → Option ρ) (r : ρ) (K : Exit → Fr → Prop), (bnd (d3 (restr (keepOf (env n) b3) A)) fun p => iterM (st3 n p.1 Ko) n p.2) = some r → (∀ e A, Ko e A = some r → K e A) → Gx.Sem Try.prog (env n) (.loop b3) A K :=
  fun A Ko r K h hk => loop_cod (P := Try.prog) (E := env n) (T := tab ρ n) (fun _ _ _ h => answers_ok h) F3 d3 (st3 n) d3_ok (show Cov _ (env n) (tab ρ n) b3 from ⟨⟨trivial, ⟨trivial, trivial⟩⟩, ⟨⟨trivial, lp6_ok n hl⟩, trivial⟩⟩) (fun c Ko s nx => step3 ρ n c Ko s nx) n A Ko r K h hk
noncomputable def b10 : Code := (cL (cB (c2 (c1 (c2 (c2 (c2 body)))))))
theorem d10_ok (A : Fr) (c : Int × (List (List Int)) × (List Int)) (s : Int) (h : d10 A = some (c, s)) : A = F10 c s := by
  unfold d10 at h
  split at h
  · cases h; rfl
  · cases h
theorem step10 (ρ : Type) (n : Nat) (c : Int × (List (List Int)) × (List Int)) (Ko : Exit → Fr → Option ρ) (s : Int) (nx : (Int × (List (List Int)) × (List Int)) → (Int) → Option ρ) :
    AEO (env n) (answers ρ (used n) (used n)) (tab ρ n) b10 (F10 c s) (thenO (fun A => bnd (d10 (restr (keepOf (env n) b10) A)) fun p => nx p.1 p.2) Ko) = st10 n c Ko s (nx c) := by kernel_rfl
theorem lp10_ok {ρ : Type} (n : Nat) (hl : EntsOK Try.prog gl (used n)) : ∀ (A : Fr) (Ko : Exit → Fr → Option ρ) (r : ρ) (K : Exit → Fr → Prop), (bnd (d10 (restr (keepOf (env n) b10) A)) fun p => iterM (st10 n p.1 Ko) n p.2) = some r → (∀ e A, Ko e A = some r → K e A) → Gx.Sem Try.prog (env n) (.loop b10) A K :=
  fun A Ko r K h hk => loop_cod (P := Try.prog) (E := env n) (T := tab ρ n) (fun _ _ _ h => answers_ok h) F10 d10 (st10 n) d10_ok (show Cov _ (env n) (tab ρ n) b10 from ⟨⟨trivial, ⟨trivial, trivial⟩⟩, ⟨⟨trivial, ⟨⟨trivial, trivial⟩, trivial⟩⟩, trivial⟩⟩) (fun c Ko s nx => step10 ρ n c Ko s nx) n A Ko r K h hk
def enc (a : Int × (List (List Int)) × (List Int)) : List AV := [.ag [.pv (.int .i64 a.1), .ls (.rows a.2.1)], .ls (.ints .i64 a.2.2)]
def dec : List AV → Option (Int × (List (List Int)) × (List Int))
  | [.ag [.pv (.int .i64 d0_0), .ls (.rows d0_1)], .ls (.ints .i64 four1)] => some (d0_0, d0_1, four1)
  | _ => none
def emb (b : Bool) : AV × List AV := (.pv (.bool b), [])
def dr : AV → List AV → Option (Bool)
  | .pv (.bool r0), [] => some r0
  | _, _ => none
theorem dec_ok (vs : List AV) (a : Int × (List (List Int)) × (List Int)) (h : dec vs = some a) : vs = enc a := by
  unfold dec at h
  split at h
  · cases h; rfl
  · cases h
theorem dr_ok (v : AV) (o : List AV) (b : Bool) (h : dr v o = some b) : emb b = (v, o) := by
  unfold dr at h
  split at h
  · cases h; rfl
  · cases h
noncomputable def ent (n : Nat) : Ent := { f := 26, ms := [.lend, .lend], α := Int × (List (List Int)) × (List Int), β := Bool, dec := dec, enc := enc, emb := emb, m := fun a => Gm.ref2_pasch n a.1 a.2.1 a.2.2, hdec := dec_ok }
theorem run (n : Nat) (a : Int × (List (List Int)) × (List Int)) : AEO (env n) (answers (Bool) (used n) (used n)) (tab (Bool) n) body (frameOf (enc a) 0) (bodyO (env n) Try.f26.results.toList (enc a) dr) = (ent n).m a := by kernel_rfl
theorem ok (n : Nat) (hl : EntsOK Try.prog gl (used n)) : EntOK Try.prog gl (ent n) :=
  fnO_sound (P := Try.prog) (e := ent n) (fn := Try.f26) (body := body) (l := used n) (te := te) (gl := gl) (n := ⟨2, 54⟩) (cut := []) (keep := keep) (T := tab (Bool) n) (dr := dr) Try.func26 (by kernel_rfl) (by kernel_rfl) te_ok (by kernel_rfl) (by kernel_rfl) hl (show Cov _ (env n) (tab (Bool) n) body from ⟨trivial, ⟨trivial, ⟨⟨trivial, lp3_ok n hl⟩, ⟨⟨trivial, lp10_ok n hl⟩, ⟨trivial, trivial⟩⟩⟩⟩⟩) dr_ok (fun a => ⟨rfl, rfl⟩) (run n)
theorem all_ok (n : Nat) : EntOK Try.prog gl (ent n) := ok n trivial
end W_ref2_pasch
namespace W_ref2_PassesOf
noncomputable def body : Code := Try.f9.body.getD .skip
def keep : List (Nat × List Nat) := [(4, [1, 3, 4, 5]), (7, [1, 3, 4, 5, 6]), (12, [1, 3, 4, 5, 6, 8]), (18, [1, 3, 4, 5, 6, 8, 11])]
noncomputable def used (n : Nat) : List Ent := [W_ref2_Together.ent n, W_ref2_pasch.ent n]
noncomputable def env (n : Nat) : Env := envOf te gl (used n) ⟨1, 94⟩ [] keep
def F18 (c : Int × (List (List Int)) × Int × Int × Int × Int) (s : Int × Int) : Fr := [(1, .bx [.pv (.int .i64 c.1), .ls (.rows c.2.1)]), (3, .pv (.int .i64 s.1)), (4, .pv (.int .i64 c.2.2.1)), (5, .pv (.int .i64 c.2.2.2.1)), (6, .pv (.int .i64 c.2.2.2.2.1)), (8, .pv (.int .i64 c.2.2.2.2.2)), (11, .pv (.int .i64 s.2))]
def d18 : Fr → Option ((Int × (List (List Int)) × Int × Int × Int × Int) × (Int × Int))
  | [(1, .bx [.pv (.int .i64 t1_0), .ls (.rows t1_1)]), (3, .pv (.int .i64 t3)), (4, .pv (.int .i64 t4)), (5, .pv (.int .i64 t5)), (6, .pv (.int .i64 t6)), (8, .pv (.int .i64 t8)), (11, .pv (.int .i64 t11))] => some ((t1_0, t1_1, t4, t5, t6, t8), (t3, t11))
  | _ => none
def st18 {ρ : Type} (n : Nat) (c : Int × (List (List Int)) × Int × Int × Int × Int) (Ko : Exit → Fr → Option ρ) (s : Int × Int) (nx : (Int × Int) → Option ρ) : Option ρ :=
  Gm.ref2_PassesOf_s18 n c.1 c.2.1 c.2.2.1 c.2.2.2.1 c.2.2.2.2.1 c.2.2.2.2.2 s.1 s.2 (fun a0 a1 => nx (a0, a1)) (fun (y0 : Int) => Ko (.exit 6) [(1, .bx [.pv (.int .i64 c.1), .ls (.rows c.2.1)]), (3, .pv (.int .i64 y0)), (4, .pv (.int .i64 c.2.2.1)), (5, .pv (.int .i64 c.2.2.2.1)), (6, .pv (.int .i64 c.2.2.2.2.1)), (8, .pv (.int .i64 c.2.2.2.2.2))])
def F12 (c : Int × (List (List Int)) × Int × Int × Int) (s : Int × Int) : Fr := [(1, .bx [.pv (.int .i64 c.1), .ls (.rows c.2.1)]), (3, .pv (.int .i64 s.1)), (4, .pv (.int .i64 c.2.2.1)), (5, .pv (.int .i64 c.2.2.2.1)), (6, .pv (.int .i64 c.2.2.2.2)), (8, .pv (.int .i64 s.2))]
def d12 : Fr → Option ((Int × (List (List Int)) × Int × Int × Int) × (Int × Int))
  | [(1, .bx [.pv (.int .i64 t1_0), .ls (.rows t1_1)]), (3, .pv (.int .i64 t3)), (4, .pv (.int .i64 t4)), (5, .pv (.int .i64 t5)), (6, .pv (.int .i64 t6)), (8, .pv (.int .i64 t8))] => some ((t1_0, t1_1, t4, t5, t6), (t3, t8))
  | _ => none
def st12 {ρ : Type} (n : Nat) (c : Int × (List (List Int)) × Int × Int × Int) (Ko : Exit → Fr → Option ρ) (s : Int × Int) (nx : (Int × Int) → Option ρ) : Option ρ :=
  Gm.ref2_PassesOf_s12 n c.1 c.2.1 c.2.2.1 c.2.2.2.1 c.2.2.2.2 s.1 s.2 (fun a0 a1 => nx (a0, a1)) (fun (y0 : Int) => Ko (.exit 4) [(1, .bx [.pv (.int .i64 c.1), .ls (.rows c.2.1)]), (3, .pv (.int .i64 y0)), (4, .pv (.int .i64 c.2.2.1)), (5, .pv (.int .i64 c.2.2.2.1)), (6, .pv (.int .i64 c.2.2.2.2))])
def F7 (c : Int × (List (List Int)) × Int × Int) (s : Int × Int) : Fr := [(1, .bx [.pv (.int .i64 c.1), .ls (.rows c.2.1)]), (3, .pv (.int .i64 s.1)), (4, .pv (.int .i64 c.2.2.1)), (5, .pv (.int .i64 c.2.2.2)), (6, .pv (.int .i64 s.2))]
def d7 : Fr → Option ((Int × (List (List Int)) × Int × Int) × (Int × Int))
  | [(1, .bx [.pv (.int .i64 t1_0), .ls (.rows t1_1)]), (3, .pv (.int .i64 t3)), (4, .pv (.int .i64 t4)), (5, .pv (.int .i64 t5)), (6, .pv (.int .i64 t6))] => some ((t1_0, t1_1, t4, t5), (t3, t6))
  | _ => none
def st7 {ρ : Type} (n : Nat) (c : Int × (List (List Int)) × Int × Int) (Ko : Exit → Fr → Option ρ) (s : Int × Int) (nx : (Int × Int) → Option ρ) : Option ρ :=
  Gm.ref2_PassesOf_s7 n c.1 c.2.1 c.2.2.1 c.2.2.2 s.1 s.2 (fun a0 a1 => nx (a0, a1)) (fun (y0 : Int) => Ko (.exit 2) [(1, .bx [.pv (.int .i64 c.1), .ls (.rows c.2.1)]), (3, .pv (.int .i64 y0)), (4, .pv (.int .i64 c.2.2.1)), (5, .pv (.int .i64 c.2.2.2))])
def F4 (c : Int × (List (List Int)) × Int) (s : Int × Int) : Fr := [(1, .bx [.pv (.int .i64 c.1), .ls (.rows c.2.1)]), (3, .pv (.int .i64 s.1)), (4, .pv (.int .i64 c.2.2)), (5, .pv (.int .i64 s.2))]
def d4 : Fr → Option ((Int × (List (List Int)) × Int) × (Int × Int))
  | [(1, .bx [.pv (.int .i64 t1_0), .ls (.rows t1_1)]), (3, .pv (.int .i64 t3)), (4, .pv (.int .i64 t4)), (5, .pv (.int .i64 t5))] => some ((t1_0, t1_1, t4), (t3, t5))
  | _ => none
def st4 {ρ : Type} (n : Nat) (c : Int × (List (List Int)) × Int) (Ko : Exit → Fr → Option ρ) (s : Int × Int) (nx : (Int × Int) → Option ρ) : Option ρ :=
  Gm.ref2_PassesOf_s4 n c.1 c.2.1 c.2.2 s.1 s.2 (fun a0 a1 => nx (a0, a1)) (fun (y0 : Int) => Ko (.exit 0) [(3, .pv (.int .i64 y0))])
noncomputable def tab (ρ : Type) (n : Nat) : Tab ρ := { live := [(0, [1]), (1, [1, 3]), (2, [1, 3, 4]), (3, [1, 3, 4, 5]), (4, [1, 3, 4, 5, 18]), (5, [1, 3, 4, 5]), (6, [1, 3, 4, 5, 6]), (7, [1, 3, 4, 5, 6, 25]), (8, [1, 3, 4, 5, 6]), (9, [1, 3, 4, 5, 6, 7]), (10, [1, 3, 4, 5, 6, 40]), (11, [1, 3, 4, 5, 6, 8]), (12, [1, 3, 4, 5, 6, 8, 45]), (13, [1, 3, 4, 5, 6, 8]), (14, [1, 3, 4, 5, 6, 8, 9]), (15, [1, 3, 4, 5, 6, 8, 9, 10]), (16, [1, 3, 4, 5, 6, 8, 75]), (17, [1, 3, 4, 5, 6, 8, 11]), (18, [1, 3, 4, 5, 6, 8, 11, 80]), (19, [1, 3, 4, 5, 6, 8, 11]), (20, [1, 3, 4, 5, 6, 8, 11, 12]), (21, [1, 3, 4, 5, 6, 8, 11, 90]), (22, [1, 3, 4, 5, 6, 8, 11]), (23, [2])], xl := [(0, [3]), (1, [1, 3, 4, 5]), (2, [1, 3, 4, 5]), (3, [1, 3, 4, 5, 6]), (4, [1, 3, 4, 5, 6]), (5, [1, 3, 4, 5, 6, 8]), (6, [1, 3, 4, 5, 6, 8]), (7, [1, 3, 4, 5, 6, 8, 11])], rl := [2], fz := [], jp := [], lp := [(18, fun A Ko => bnd (d18 A) fun p => iterM (st18 n p.1 Ko) n p.2), (12, fun A Ko => bnd (d12 A) fun p => iterM (st12 n p.1 Ko) n p.2), (7, fun A Ko => bnd (d7 A) fun p => iterM (st7 n p.1 Ko) n p.2), (4, fun A Ko => bnd (d4 A) fun p => iterM (st4 n p.1 Ko) n p.2)] }
noncomputable def b18 : Code := (cL (cB (c2 (c2 (c2 (c2 (cB (c1 (c2 (cL (cB (c2 (c2 (c2 (cB (c1 (c2 (cL (cB (c2 (cB (c1 (c2 (cL (cB (c2 (c1 (c2 (c2 (c2 body))))))))))))))))))))))))))))))
theorem d18_ok (A : Fr) (c : Int × (List (List Int)) × Int × Int × Int × Int) (s : Int × Int) (h : d18 A = some (c, s)) : A = F18 c s := by
  unfold d18 at h
  split at h
  · cases h; rfl
  · cases h
theorem step18 (ρ : Type) (n : Nat) (c : Int × (List (List Int)) × Int × Int × Int × Int) (Ko : Exit → Fr → Option ρ) (s : Int × Int) (nx : (Int × (List (List Int)) × Int × Int × Int × Int) → (Int × Int) → Option ρ) :
    AEO (env n) (answers ρ (used n) (used n)) (tab ρ n) b18 (F18 c s) (thenO (fun A => bnd (d18 (restr (keepOf (env n) b18) A)) fun p => nx p.1 p.2) Ko) = st18 n c Ko s (nx c) := by kernel_rfl
theorem lp18_ok {ρ : Type} (n : Nat) (hl : EntsOK Try.prog gl (used n)) : ∀ (A : Fr) (Ko : Exit → Fr → Option ρ) (r : ρ) (K : Exit → Fr → Prop), (bnd (d18 (restr (keepOf (env n) b18) A)) fun p => iterM (st18 n p.1 Ko) n p.2) = some r → (∀ e A, Ko e A = some r → K e A) → Gx.Sem Try.prog (env n) (.loop b18) A K :=
  fun A Ko r K h hk => loop_cod (P := Try.prog) (E := env n) (T := tab ρ n) (fun _ _ _ h => answers_ok h) F18 d18 (st18 n) d18_ok (show Cov _ (env n) (tab ρ n) b18 from ⟨⟨trivial, ⟨trivial, trivial⟩⟩, ⟨⟨trivial, ⟨trivial, ⟨trivial, trivial⟩⟩⟩, trivial⟩⟩) (fun c Ko s nx => step18 ρ n c Ko s nx) n A Ko r K h hk
noncomputable def b12 : Code := (cL (cB (c2 (c2 (c2 (cB (c1 (c2 (cL (cB (c2 (cB (c1 (c2 (cL (cB (c2 (c1 (c2 (c2 (c2 body)))))))))))))))))))))
theorem d12_ok (A : Fr) (c : Int × (List (List Int)) × Int × Int × Int) (s : Int × Int) (h : d12 A = some (c, s)) : A = F12 c s := by
  unfold d12 at h
  split at h
  · cases h; rfl
  · cases h
theorem step12 (ρ : Type) (n : Nat) (c : Int × (List (List Int)) × Int × Int × Int) (Ko : Exit → Fr → Option ρ) (s : Int × Int) (nx : (Int × (List (List Int)) × Int × Int × Int) → (Int × Int) → Option ρ) :
    AEO (env n) (answers ρ (used n) (used n)) (tab ρ n) b12 (F12 c s) (thenO (fun A => bnd (d12 (restr (keepOf (env n) b12) A)) fun p => nx p.1 p.2) Ko) = st12 n c Ko s (nx c) := by kernel_rfl
theorem lp12_ok {ρ : Type} (n : Nat) (hl : EntsOK Try.prog gl (used n)) : ∀ (A : Fr) (Ko : Exit → Fr → Option ρ) (r : ρ) (K : Exit → Fr → Prop), (bnd (d12 (restr (keepOf (env n) b12) A)) fun p => iterM (st12 n p.1 Ko) n p.2) = some r → (∀ e A, Ko e A = some r → K e A) → Gx.Sem Try.prog (env n) (.loop b12) A K :=
  fun A Ko r K h hk => loop_cod (P := Try.prog) (E := env n) (T := tab ρ n) (fun _ _ _ h => answers_ok h) F12 d12 (st12 n) d12_ok (show Cov _ (env n) (tab ρ n) b12 from ⟨⟨trivial, ⟨trivial, trivial⟩⟩, ⟨⟨trivial, ⟨trivial, ⟨⟨trivial, ⟨trivial, trivial⟩⟩, ⟨trivial, lp18_ok n hl⟩⟩⟩⟩, trivial⟩⟩) (fun c Ko s nx => step12 ρ n c Ko s nx) n A Ko r K h hk
noncomputable def b7 : Code := (cL (cB (c2 (cB (c1 (c2 (cL (cB (c2 (c1 (c2 (c2 (c2 body)))))))))))))
theorem d7_ok (A : Fr) (c : Int × (List (List Int)) × Int × Int) (s : Int × Int) (h : d7 A = some (c, s)) : A = F7 c s := by
  unfold d7 at h
  split at h
  · cases h; rfl
  · cases h
theorem step7 (ρ : Type) (n : Nat) (c : Int × (List (List Int)) × Int × Int) (Ko : Exit → Fr → Option ρ) (s : Int × Int) (nx : (Int × (List (List Int)) × Int × Int) → (Int × Int) → Option ρ) :
    AEO (env n) (answers ρ (used n) (used n)) (tab ρ n) b7 (F7 c s) (thenO (fun A => bnd (d7 (restr (keepOf (env n) b7) A)) fun p => nx p.1 p.2) Ko) = st7 n c Ko s (nx c) := by kernel_rfl
theorem lp7_ok {ρ : Type} (n : Nat) (hl : EntsOK Try.prog gl (used n)) : ∀ (A : Fr) (Ko : Exit → Fr → Option ρ) (r : ρ) (K : Exit → Fr → Prop), (bnd (d7 (restr (keepOf (env n) b7) A)) fun p => iterM (st7 n p.1 Ko) n p.2) = some r → (∀ e A, Ko e A = some r → K e A) → Gx.Sem Try.prog (env n) (.loop b7) A K :=
  fun A Ko r K h hk => loop_cod (P := Try.prog) (E := env n) (T := tab ρ n) (fun _ _ _ h => answers_ok h) F7 d7 (st7 n) d7_ok (show Cov _ (env n) (tab ρ n) b7 from ⟨⟨trivial, ⟨trivial, trivial⟩⟩, ⟨⟨trivial, ⟨⟨trivial, ⟨trivial, trivial⟩⟩, ⟨trivial, lp12_ok n hl⟩⟩⟩, trivial⟩⟩) (fun c Ko s nx => step7 ρ n c Ko s nx) n A Ko r K h hk
noncomputable def b4 : Code := (cL (cB (c2 (c1 (c2 (c2 (c2 body)))))))
theorem d4_ok (A : Fr) (c : Int × (List (List Int)) × Int) (s : Int × Int) (h : d4 A = some (c, s)) : A = F4 c s := by
  unfold d4 at h
  split at h
  · cases h; rfl
  · cases h
theorem step4 (ρ : Type) (n : Nat) (c : Int × (List (List Int)) × Int) (Ko : Exit → Fr → Option ρ) (s : Int × Int) (nx : (Int × (List (List Int)) × Int) → (Int × Int) → Option ρ) :
    AEO (env n) (answers ρ (used n) (used n)) (tab ρ n) b4 (F4 c s) (thenO (fun A => bnd (d4 (restr (keepOf (env n) b4) A)) fun p => nx p.1 p.2) Ko) = st4 n c Ko s (nx c) := by kernel_rfl
theorem lp4_ok {ρ : Type} (n : Nat) (hl : EntsOK Try.prog gl (used n)) : ∀ (A : Fr) (Ko : Exit → Fr → Option ρ) (r : ρ) (K : Exit → Fr → Prop), (bnd (d4 (restr (keepOf (env n) b4) A)) fun p => iterM (st4 n p.1 Ko) n p.2) = some r → (∀ e A, Ko e A = some r → K e A) → Gx.Sem Try.prog (env n) (.loop b4) A K :=
  fun A Ko r K h hk => loop_cod (P := Try.prog) (E := env n) (T := tab ρ n) (fun _ _ _ h => answers_ok h) F4 d4 (st4 n) d4_ok (show Cov _ (env n) (tab ρ n) b4 from ⟨⟨trivial, ⟨trivial, trivial⟩⟩, ⟨⟨trivial, lp7_ok n hl⟩, trivial⟩⟩) (fun c Ko s nx => step4 ρ n c Ko s nx) n A Ko r K h hk
def enc (a : Int × (List (List Int))) : List AV := [.ag [.pv (.int .i64 a.1), .ls (.rows a.2)]]
def dec : List AV → Option (Int × (List (List Int)))
  | [.ag [.pv (.int .i64 toArray0_0), .ls (.rows toArray0_1)]] => some (toArray0_0, toArray0_1)
  | _ => none
def emb (b : Int) : AV × List AV := (.pv (.int .i64 b), [])
def dr : AV → List AV → Option (Int)
  | .pv (.int .i64 r0), [] => some r0
  | _, _ => none
theorem dec_ok (vs : List AV) (a : Int × (List (List Int))) (h : dec vs = some a) : vs = enc a := by
  unfold dec at h
  split at h
  · cases h; rfl
  · cases h
theorem dr_ok (v : AV) (o : List AV) (b : Int) (h : dr v o = some b) : emb b = (v, o) := by
  unfold dr at h
  split at h
  · cases h; rfl
  · cases h
noncomputable def ent (n : Nat) : Ent := { f := 9, ms := [.lend], α := Int × (List (List Int)), β := Int, dec := dec, enc := enc, emb := emb, m := fun a => Gm.ref2_PassesOf n a.1 a.2, hdec := dec_ok }
theorem run (n : Nat) (a : Int × (List (List Int))) : AEO (env n) (answers (Int) (used n) (used n)) (tab (Int) n) body (frameOf (enc a) 0) (bodyO (env n) Try.f9.results.toList (enc a) dr) = (ent n).m a := by kernel_rfl
theorem ok (n : Nat) (hl : EntsOK Try.prog gl (used n)) : EntOK Try.prog gl (ent n) :=
  fnO_sound (P := Try.prog) (e := ent n) (fn := Try.f9) (body := body) (l := used n) (te := te) (gl := gl) (n := ⟨1, 94⟩) (cut := []) (keep := keep) (T := tab (Int) n) (dr := dr) Try.func9 (by kernel_rfl) (by kernel_rfl) te_ok (by kernel_rfl) (by kernel_rfl) hl (show Cov _ (env n) (tab (Int) n) body from ⟨trivial, ⟨trivial, ⟨trivial, ⟨⟨trivial, lp4_ok n hl⟩, ⟨trivial, trivial⟩⟩⟩⟩⟩) dr_ok (fun a => ⟨rfl, rfl⟩) (run n)
theorem all_ok (n : Nat) : EntOK Try.prog gl (ent n) := ok n ⟨W_ref2_Together.all_ok n, W_ref2_pasch.all_ok n, trivial⟩
end W_ref2_PassesOf
namespace W_law2_TriplePasses
noncomputable def body : Code := Try.f3.body.getD .skip
def keep : List (Nat × List Nat) := []
noncomputable def used (n : Nat) : List Ent := [W_ref2_TripleFault.ent n, W_triple_Passes.ent n, W_ref2_PassesOf.ent n]
noncomputable def env (n : Nat) : Env := envOf te gl (used n) ⟨1, 32⟩ [] keep
noncomputable def tab (ρ : Type) (_n : Nat) : Tab ρ := { live := [(0, [1]), (1, [1, 3]), (2, [1, 3, 4, 5]), (3, [1, 3, 4, 5, 15]), (4, [2]), (5, [4, 5, 6]), (6, [2])], xl := [], rl := [2], fz := [], jp := [], lp := [] }
def enc (a : Int × (List (List Int))) : List AV := [.ag [.pv (.int .i64 a.1), .ls (.rows a.2)]]
def dec : List AV → Option (Int × (List (List Int)))
  | [.ag [.pv (.int .i64 d0_0), .ls (.rows d0_1)]] => some (d0_0, d0_1)
  | _ => none
def emb (b : Bool) : AV × List AV := (.pv (.bool b), [])
def dr : AV → List AV → Option (Bool)
  | .pv (.bool r0), [] => some r0
  | _, _ => none
theorem dec_ok (vs : List AV) (a : Int × (List (List Int))) (h : dec vs = some a) : vs = enc a := by
  unfold dec at h
  split at h
  · cases h; rfl
  · cases h
theorem dr_ok (v : AV) (o : List AV) (b : Bool) (h : dr v o = some b) : emb b = (v, o) := by
  unfold dr at h
  split at h
  · cases h; rfl
  · cases h
noncomputable def ent (n : Nat) : Ent := { f := 3, ms := [.lend], α := Int × (List (List Int)), β := Bool, dec := dec, enc := enc, emb := emb, m := fun a => Gm.law2_TriplePasses n a.1 a.2, hdec := dec_ok }
theorem run (n : Nat) (a : Int × (List (List Int))) : AEO (env n) (answers (Bool) (used n) (used n)) (tab (Bool) n) body (frameOf (enc a) 0) (bodyO (env n) Try.f3.results.toList (enc a) dr) = (ent n).m a := by kernel_rfl
theorem ok (n : Nat) (hl : EntsOK Try.prog gl (used n)) : EntOK Try.prog gl (ent n) :=
  fnO_sound (P := Try.prog) (e := ent n) (fn := Try.f3) (body := body) (l := used n) (te := te) (gl := gl) (n := ⟨1, 32⟩) (cut := []) (keep := keep) (T := tab (Bool) n) (dr := dr) Try.func3 (by kernel_rfl) (by kernel_rfl) te_ok (by kernel_rfl) (by kernel_rfl) hl (show Cov _ (env n) (tab (Bool) n) body from ⟨trivial, ⟨trivial, ⟨trivial, ⟨⟨trivial, ⟨⟨trivial, trivial⟩, trivial⟩⟩, ⟨trivial, ⟨trivial, trivial⟩⟩⟩⟩⟩⟩) dr_ok (fun a => ⟨rfl, rfl⟩) (run n)
theorem all_ok (n : Nat) : EntOK Try.prog gl (ent n) := ok n ⟨W_ref2_TripleFault.all_ok n, W_triple_Passes.all_ok n, W_ref2_PassesOf.all_ok n, trivial⟩
end W_law2_TriplePasses
end Go.Gw
