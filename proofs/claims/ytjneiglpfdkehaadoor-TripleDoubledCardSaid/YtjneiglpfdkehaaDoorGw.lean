/-
  The functions keep the contracts that their models give; printed by program (gen.py).
  Conditions: none.
-/
import Derived.Test.YtjneiglpfdkehaaDoorG3
import Derived.Test.YtjneiglpfdkehaaDoorProg
import Derived.KernelRfl
import Derived.Test.YtjneiglpfdkehaaDoorGm
import Derived.Test.YtjneiglpfdkehaaDoorSh
import Derived.Test.YtjneiglpfdkehaaDoorLS
import Derived.Test.YtjneiglpfdkehaaDoorG5
namespace Go.Gw
open Go Go.Gx Go.Proofs
set_option maxRecDepth 100000
def te : TE := [(1, .func),
  (2, .int .i64),
  (3, .int .i64),
  (4, .bool),
  (5, .int .u8),
  (6, .int .u8),
  (7, .strct [(0, 2, 1), (1, 3, 1), (2, 4, 1), (3, 6, 1)] 4 [.pv (.int .i64 0), .pv (.int .i64 0), .pv (.bool false), .pv (.int .u8 0)]),
  (8, .strct [(0, 2, 1), (1, 3, 1), (2, 4, 1), (3, 6, 1)] 4 [.pv (.int .i64 0), .pv (.int .i64 0), .pv (.bool false), .pv (.int .u8 0)]),
  (12, .int .u64),
  (15, .ptr),
  (16, .ptr),
  (17, .ptr),
  (21, .int .i32),
  (22, .slice 3 (.ints .i64 [])),
  (23, .strct [(0, 3, 1), (1, 3, 1), (2, 22, 1)] 3 [.pv (.int .i64 0), .pv (.int .i64 0), .nl 3 (.ints .i64 [])]),
  (24, .strct [(0, 3, 1), (1, 3, 1), (2, 22, 1)] 3 [.pv (.int .i64 0), .pv (.int .i64 0), .nl 3 (.ints .i64 [])]),
  (25, .func),
  (26, .int .i64),
  (28, .func),
  (30, .func),
  (31, .slice 22 (.rows [])),
  (32, .strct [(0, 3, 1), (1, 31, 1)] 2 [.pv (.int .i64 0), .nl 22 (.rows [])]),
  (33, .strct [(0, 3, 1), (1, 31, 1)] 2 [.pv (.int .i64 0), .nl 22 (.rows [])]),
  (35, .func),
  (37, .func),
  (38, .func),
  (39, .func),
  (40, .func),
  (41, .func),
  (42, .slice 31 (.rows2 [])),
  (43, .func),
  (45, .func),
  (46, .func),
  (47, .func),
  (48, .func),
  (49, .strct [(0, 3, 1), (1, 22, 1)] 2 [.pv (.int .i64 0), .nl 3 (.ints .i64 [])]),
  (50, .strct [(0, 3, 1), (1, 22, 1)] 2 [.pv (.int .i64 0), .nl 3 (.ints .i64 [])]),
  (52, .func),
  (53, .func),
  (55, .func),
  (56, .func),
  (57, .func),
  (58, .func),
  (59, .func),
  (60, .func),
  (61, .func),
  (62, .func),
  (64, .func),
  (65, .func),
  (66, .func),
  (67, .func),
  (68, .func),
  (69, .func),
  (70, .func),
  (71, .func),
  (72, .slice 77 (.ints .u64 [])),
  (73, .func),
  (74, .func),
  (75, .func),
  (76, .int .u64),
  (77, .int .u64),
  (78, .arr 40 3 1 (.ints .i64 (List.replicate 40 0))),
  (79, .arr 40 78 40 (.ints .i64 (List.replicate 1600 0))),
  (80, .arr 40 78 40 (.ints .i64 (List.replicate 1600 0))),
  (82, .func),
  (83, .func),
  (84, .func),
  (85, .func),
  (86, .func),
  (87, .strct [(0, 24, 3), (3, 3, 1)] 4 [.pv (.int .i64 0), .pv (.int .i64 0), .nl 3 (.ints .i64 []), .pv (.int .i64 0)]),
  (88, .strct [(0, 24, 3), (3, 3, 1)] 4 [.pv (.int .i64 0), .pv (.int .i64 0), .nl 3 (.ints .i64 []), .pv (.int .i64 0)]),
  (90, .func),
  (91, .func),
  (92, .ptr),
  (94, .func),
  (95, .func),
  (96, .func),
  (97, .ptr),
  (98, .strct [(0, 31, 1)] 1 [.nl 22 (.rows [])]),
  (99, .strct [(0, 31, 1)] 1 [.nl 22 (.rows [])]),
  (100, .strct [(0, 99, 1), (1, 3, 1)] 2 [.nl 22 (.rows []), .pv (.int .i64 0)]),
  (101, .strct [(0, 99, 1), (1, 3, 1)] 2 [.nl 22 (.rows []), .pv (.int .i64 0)]),
  (102, .func),
  (103, .func),
  (104, .func),
  (105, .arr 40 78 40 (.ints .i64 (List.replicate 1600 0))),
  (107, .func),
  (108, .func),
  (109, .ptr),
  (110, .func),
  (111, .func),
  (112, .func),
  (113, .arr 8 3 1 (.ints .i64 (List.replicate 8 0))),
  (114, .arr 8 113 8 (.ints .i64 (List.replicate 64 0))),
  (115, .flat [(0, 3, 1), (1, 114, 64)] 65 (.ints .i64 (List.replicate 65 0))),
  (116, .flat [(0, 3, 1), (1, 114, 64)] 65 (.ints .i64 (List.replicate 65 0))),
  (118, .func),
  (119, .func),
  (120, .func),
  (121, .func),
  (123, .func),
  (124, .sls 33 2),
  (125, .arr 3 3 1 (.ints .i64 (List.replicate 3 0))),
  (126, .arr 6 125 3 (.ints .i64 (List.replicate 18 0))),
  (127, .func),
  (129, .func),
  (130, .arr 7 3 1 (.ints .i64 (List.replicate 7 0))),
  (131, .arr 7 3 1 (.ints .i64 (List.replicate 7 0))),
  (132, .func),
  (133, .func),
  (134, .func),
  (135, .func),
  (136, .func),
  (137, .func),
  (138, .func),
  (139, .func),
  (140, .func),
  (141, .func),
  (142, .func),
  (143, .strct [(0, 24, 3), (3, 3, 1), (4, 3, 1), (5, 31, 1), (6, 31, 1), (7, 22, 1)] 8 [.pv (.int .i64 0), .pv (.int .i64 0), .nl 3 (.ints .i64 []), .pv (.int .i64 0), .pv (.int .i64 0), .nl 22 (.rows []), .nl 22 (.rows []), .nl 3 (.ints .i64 [])]),
  (144, .strct [(0, 24, 3), (3, 3, 1), (4, 3, 1), (5, 31, 1), (6, 31, 1), (7, 22, 1)] 8 [.pv (.int .i64 0), .pv (.int .i64 0), .nl 3 (.ints .i64 []), .pv (.int .i64 0), .pv (.int .i64 0), .nl 22 (.rows []), .nl 22 (.rows []), .nl 3 (.ints .i64 [])]),
  (145, .func),
  (146, .func),
  (147, .func),
  (148, .func),
  (149, .ptr),
  (150, .func),
  (151, .arr 8 4 1 (.bools (List.replicate 8 false))),
  (152, .arr 8 151 8 (.bools (List.replicate 64 false))),
  (153, .func),
  (154, .func),
  (155, .slice 4 (.bools [])),
  (156, .func),
  (157, .func),
  (158, .func),
  (159, .func),
  (160, .func),
  (161, .func),
  (162, .int .u64),
  (163, .func),
  (164, .func),
  (165, .func),
  (166, .arr 18 3 1 (.ints .i64 (List.replicate 18 0))),
  (167, .func),
  (168, .int .i64),
  (170, .func),
  (171, .func),
  (172, .func),
  (173, .func),
  (174, .func),
  (175, .func),
  (176, .int .u32),
  (177, .func),
  (178, .func),
  (179, .func),
  (180, .func),
  (181, .func),
  (182, .int .u64),
  (183, .func),
  (184, .func),
  (185, .func),
  (186, .ptr),
  (187, .func),
  (188, .func),
  (189, .func),
  (190, .ptr),
  (192, .func),
  (193, .func),
  (194, .func),
  (200, .int .u8),
  (201, .int .u8),
  (202, .func),
  (203, .ptr),
  (204, .int .i32),
  (205, .int .i32)]
def gl : List (Nat × Sq) := [(0, (.ints .i64 ([0, 1, 2, 0, 2, 1, 1, 0, 2, 1, 2, 0, 2, 0, 1, 2, 1, 0])))]
theorem te_ok : teOK Tryd.prog te = true := by kernel_rfl
def c1 : Code → Code
  | .seq a _ => a
  | c => c
def c2 : Code → Code
  | .seq _ a => a
  | c => c
def cT : Code → Code
  | .cond _ a _ => a
  | c => c
def cF : Code → Code
  | .cond _ _ a => a
  | c => c
def cB : Code → Code
  | .block _ a => a
  | c => c
def cL : Code → Code
  | .loop a => a
  | c => c
end Go.Gw

/-
  The functions keep the contracts that their models give; printed by program (gen.py).
  Conditions: none.
-/
namespace Go.Gw
open Go Go.Gx Go.Proofs
set_option maxRecDepth 100000
namespace W_ref2_DesignFault
noncomputable def body : Code := Tryd.f70.body.getD .skip
def keep : List (Nat × List Nat) := [(6, [1, 3]), (10, [1, 3, 4, 5]), (15, [1, 3, 4, 6])]
noncomputable def used (_n : Nat) : List Ent := []
noncomputable def env (n : Nat) : Env := envOf te gl (used n) ⟨1, 67⟩ [] keep
def F10 (c : Int × (List (List Int)) × Int × (List Int)) (s : Int) : Fr := [(1, .bx [.pv (.int .i64 c.1), .ls (.rows c.2.1)]), (3, .pv (.int .i64 c.2.2.1)), (4, .sl (.ints .i64 c.2.2.2)), (5, .pv (.int .i64 s))]
def d10 : Fr → Option ((Int × (List (List Int)) × Int × (List Int)) × (Int))
  | [(1, .bx [.pv (.int .i64 t1_0), .ls (.rows t1_1)]), (3, .pv (.int .i64 t3)), (4, .sl (.ints .i64 t4)), (5, .pv (.int .i64 t5))] => some ((t1_0, t1_1, t3, t4), t5)
  | _ => none
def st10 {ρ : Type} (n : Nat) (c : Int × (List (List Int)) × Int × (List Int)) (Ko : Exit → Fr → Option ρ) (s : Int) (nx : Int → Option ρ) : Option ρ :=
  Gm.ref2_DesignFault_s10 n c.1 c.2.1 c.2.2.1 c.2.2.2 s nx (Ko .ret [(2, .pv (.int .i64 1))]) (Ko (.exit 2) [(1, .bx [.pv (.int .i64 c.1), .ls (.rows c.2.1)]), (3, .pv (.int .i64 c.2.2.1)), (4, .sl (.ints .i64 c.2.2.2))])
def F15 (c : Int × (List (List Int)) × Int × (List Int)) (s : Int) : Fr := [(1, .bx [.pv (.int .i64 c.1), .ls (.rows c.2.1)]), (3, .pv (.int .i64 c.2.2.1)), (4, .sl (.ints .i64 c.2.2.2)), (6, .pv (.int .i64 s))]
def d15 : Fr → Option ((Int × (List (List Int)) × Int × (List Int)) × (Int))
  | [(1, .bx [.pv (.int .i64 t1_0), .ls (.rows t1_1)]), (3, .pv (.int .i64 t3)), (4, .sl (.ints .i64 t4)), (6, .pv (.int .i64 t6))] => some ((t1_0, t1_1, t3, t4), t6)
  | _ => none
def st15 {ρ : Type} (n : Nat) (c : Int × (List (List Int)) × Int × (List Int)) (Ko : Exit → Fr → Option ρ) (s : Int) (nx : Int → Option ρ) : Option ρ :=
  Gm.ref2_DesignFault_s15 n c.1 c.2.1 c.2.2.1 c.2.2.2 s nx (Ko .ret [(2, .pv (.int .i64 2))]) (Ko (.exit 4) [(1, .bx [.pv (.int .i64 c.1), .ls (.rows c.2.1)]), (3, .pv (.int .i64 c.2.2.1))])
def F6 (c : Int × (List (List Int))) (s : Int) : Fr := [(1, .bx [.pv (.int .i64 c.1), .ls (.rows c.2)]), (3, .pv (.int .i64 s))]
def d6 : Fr → Option ((Int × (List (List Int))) × (Int))
  | [(1, .bx [.pv (.int .i64 t1_0), .ls (.rows t1_1)]), (3, .pv (.int .i64 t3))] => some ((t1_0, t1_1), t3)
  | _ => none
def st6 {ρ : Type} (n : Nat) (c : Int × (List (List Int))) (Ko : Exit → Fr → Option ρ) (s : Int) (nx : Int → Option ρ) : Option ρ :=
  Gm.ref2_DesignFault_s6 n c.1 c.2 s nx (Ko .ret [(2, .pv (.int .i64 1))]) (Ko .ret [(2, .pv (.int .i64 2))]) (Ko (.exit 0) [])
noncomputable def tab (ρ : Type) (n : Nat) : Tab ρ := { live := [(0, [1]), (1, [1, 14]), (2, [2]), (3, [1, 18]), (4, [2]), (5, [1, 3]), (6, [1, 3, 23]), (7, [1, 3]), (8, [1, 3, 4]), (9, [1, 3, 4, 5]), (10, [1, 3, 4, 5, 34]), (11, [1, 3, 4, 5]), (12, [1, 3, 4, 5, 50]), (13, [2]), (14, [1, 3, 4, 6]), (15, [1, 3, 4, 6, 54]), (16, [1, 3, 4, 6]), (17, [1, 3, 4, 6, 66]), (18, [2]), (19, [2])], xl := [(0, []), (1, [1, 3]), (2, [1, 3, 4]), (3, [1, 3, 4, 5]), (4, [1, 3]), (5, [1, 3, 4, 6])], rl := [2], fz := [], jp := [], lp := [(10, fun A Ko => bnd (d10 A) fun p => iterM (st10 n p.1 Ko) n p.2), (15, fun A Ko => bnd (d15 A) fun p => iterM (st15 n p.1 Ko) n p.2), (6, fun A Ko => bnd (d6 A) fun p => iterM (st6 n p.1 Ko) n p.2)] }
noncomputable def b10 : Code := (cL (cB (c2 (c1 (c2 (cB (c1 (c2 (cL (cB (c2 (c1 (c2 (c2 (c2 body)))))))))))))))
theorem d10_ok (A : Fr) (c : Int × (List (List Int)) × Int × (List Int)) (s : Int) (h : d10 A = some (c, s)) : A = F10 c s := by
  unfold d10 at h
  split at h
  · cases h; rfl
  · cases h
theorem step10 (ρ : Type) (n : Nat) (c : Int × (List (List Int)) × Int × (List Int)) (Ko : Exit → Fr → Option ρ) (s : Int) (nx : (Int × (List (List Int)) × Int × (List Int)) → (Int) → Option ρ) :
    AEO (env n) (answers ρ (used n) (used n)) (tab ρ n) b10 (F10 c s) (thenO (fun A => bnd (d10 (restr (keepOf (env n) b10) A)) fun p => nx p.1 p.2) Ko) = st10 n c Ko s (nx c) := by kernel_rfl
theorem lp10_ok {ρ : Type} (n : Nat) (hl : EntsOK Tryd.prog gl (used n)) : ∀ (A : Fr) (Ko : Exit → Fr → Option ρ) (r : ρ) (K : Exit → Fr → Prop), (bnd (d10 (restr (keepOf (env n) b10) A)) fun p => iterM (st10 n p.1 Ko) n p.2) = some r → (∀ e A, Ko e A = some r → K e A) → Gx.Sem Tryd.prog (env n) (.loop b10) A K :=
  fun A Ko r K h hk => loop_cod (P := Tryd.prog) (E := env n) (T := tab ρ n) (fun _ _ _ h => answers_ok h) F10 d10 (st10 n) d10_ok (show Cov _ (env n) (tab ρ n) b10 from ⟨⟨trivial, ⟨trivial, trivial⟩⟩, ⟨⟨trivial, ⟨⟨trivial, trivial⟩, trivial⟩⟩, trivial⟩⟩) (fun c Ko s nx => step10 ρ n c Ko s nx) n A Ko r K h hk
noncomputable def b15 : Code := (cL (cB (c2 (c2 (c2 (cB (c1 (c2 (cL (cB (c2 (c1 (c2 (c2 (c2 body)))))))))))))))
theorem d15_ok (A : Fr) (c : Int × (List (List Int)) × Int × (List Int)) (s : Int) (h : d15 A = some (c, s)) : A = F15 c s := by
  unfold d15 at h
  split at h
  · cases h; rfl
  · cases h
theorem step15 (ρ : Type) (n : Nat) (c : Int × (List (List Int)) × Int × (List Int)) (Ko : Exit → Fr → Option ρ) (s : Int) (nx : (Int × (List (List Int)) × Int × (List Int)) → (Int) → Option ρ) :
    AEO (env n) (answers ρ (used n) (used n)) (tab ρ n) b15 (F15 c s) (thenO (fun A => bnd (d15 (restr (keepOf (env n) b15) A)) fun p => nx p.1 p.2) Ko) = st15 n c Ko s (nx c) := by kernel_rfl
theorem lp15_ok {ρ : Type} (n : Nat) (hl : EntsOK Tryd.prog gl (used n)) : ∀ (A : Fr) (Ko : Exit → Fr → Option ρ) (r : ρ) (K : Exit → Fr → Prop), (bnd (d15 (restr (keepOf (env n) b15) A)) fun p => iterM (st15 n p.1 Ko) n p.2) = some r → (∀ e A, Ko e A = some r → K e A) → Gx.Sem Tryd.prog (env n) (.loop b15) A K :=
  fun A Ko r K h hk => loop_cod (P := Tryd.prog) (E := env n) (T := tab ρ n) (fun _ _ _ h => answers_ok h) F15 d15 (st15 n) d15_ok (show Cov _ (env n) (tab ρ n) b15 from ⟨⟨trivial, ⟨trivial, trivial⟩⟩, ⟨⟨trivial, ⟨⟨trivial, trivial⟩, trivial⟩⟩, trivial⟩⟩) (fun c Ko s nx => step15 ρ n c Ko s nx) n A Ko r K h hk
noncomputable def b6 : Code := (cL (cB (c2 (c1 (c2 (c2 (c2 body)))))))
theorem d6_ok (A : Fr) (c : Int × (List (List Int))) (s : Int) (h : d6 A = some (c, s)) : A = F6 c s := by
  unfold d6 at h
  split at h
  · cases h; rfl
  · cases h
theorem step6 (ρ : Type) (n : Nat) (c : Int × (List (List Int))) (Ko : Exit → Fr → Option ρ) (s : Int) (nx : (Int × (List (List Int))) → (Int) → Option ρ) :
    AEO (env n) (answers ρ (used n) (used n)) (tab ρ n) b6 (F6 c s) (thenO (fun A => bnd (d6 (restr (keepOf (env n) b6) A)) fun p => nx p.1 p.2) Ko) = st6 n c Ko s (nx c) := by kernel_rfl
theorem lp6_ok {ρ : Type} (n : Nat) (hl : EntsOK Tryd.prog gl (used n)) : ∀ (A : Fr) (Ko : Exit → Fr → Option ρ) (r : ρ) (K : Exit → Fr → Prop), (bnd (d6 (restr (keepOf (env n) b6) A)) fun p => iterM (st6 n p.1 Ko) n p.2) = some r → (∀ e A, Ko e A = some r → K e A) → Gx.Sem Tryd.prog (env n) (.loop b6) A K :=
  fun A Ko r K h hk => loop_cod (P := Tryd.prog) (E := env n) (T := tab ρ n) (fun _ _ _ h => answers_ok h) F6 d6 (st6 n) d6_ok (show Cov _ (env n) (tab ρ n) b6 from ⟨⟨trivial, ⟨trivial, trivial⟩⟩, ⟨⟨trivial, ⟨⟨trivial, lp10_ok n hl⟩, ⟨trivial, lp15_ok n hl⟩⟩⟩, trivial⟩⟩) (fun c Ko s nx => step6 ρ n c Ko s nx) n A Ko r K h hk
def enc (a : Int × (List (List Int))) : List AV := [.ag [.pv (.int .i64 a.1), .ls (.rows a.2)]]
def dec : List AV → Option (Int × (List (List Int)))
  | [.ag [.pv (.int .i64 toArray0_0), .ls (.rows toArray0_1)]] => some (toArray0_0, toArray0_1)
  | _ => none
def emb (b : Int) : AV × List AV := (.pv (.int .i64 b), [])
def dr : AV → List AV → Option (Int)
  | .pv (.int .i64 r0), [] => some r0
  | _, _ => none
theorem dec_ok (vs : List AV) (a : Int × (List (List Int))) (h : dec vs = some a) : vs = enc a := by
  unfold dec at h
  split at h
  · cases h; rfl
  · cases h
theorem dr_ok (v : AV) (o : List AV) (b : Int) (h : dr v o = some b) : emb b = (v, o) := by
  unfold dr at h
  split at h
  · cases h; rfl
  · cases h
noncomputable def ent (n : Nat) : Ent := { f := 70, ms := [.lend], α := Int × (List (List Int)), β := Int, dec := dec, enc := enc, emb := emb, m := fun a => Gm.ref2_DesignFault n a.1 a.2, hdec := dec_ok }
theorem run (n : Nat) (a : Int × (List (List Int))) : AEO (env n) (answers (Int) (used n) (used n)) (tab (Int) n) body (frameOf (enc a) 0) (bodyO (env n) Tryd.f70.results.toList (enc a) dr) = (ent n).m a := by kernel_rfl
theorem ok (n : Nat) (hl : EntsOK Tryd.prog gl (used n)) : EntOK Tryd.prog gl (ent n) :=
  fnO_sound (P := Tryd.prog) (e := ent n) (fn := Tryd.f70) (body := body) (l := used n) (te := te) (gl := gl) (n := ⟨1, 67⟩) (cut := []) (keep := keep) (T := tab (Int) n) (dr := dr) Tryd.func70 (by kernel_rfl) (by kernel_rfl) te_ok (by kernel_rfl) (by kernel_rfl) hl (show Cov _ (env n) (tab (Int) n) body from ⟨trivial, ⟨⟨trivial, ⟨⟨trivial, trivial⟩, trivial⟩⟩, ⟨⟨trivial, ⟨⟨trivial, trivial⟩, trivial⟩⟩, ⟨⟨trivial, lp6_ok n hl⟩, ⟨trivial, trivial⟩⟩⟩⟩⟩) dr_ok (fun a => ⟨rfl, rfl⟩) (run n)
theorem all_ok (n : Nat) : EntOK Tryd.prog gl (ent n) := ok n trivial
end W_ref2_DesignFault
namespace W_ref2_Lies
noncomputable def body : Code := Tryd.f71.body.getD .skip
def keep : List (Nat × List Nat) := [(2, [0, 1, 5])]
noncomputable def used (_n : Nat) : List Ent := []
noncomputable def env (n : Nat) : Env := envOf te gl (used n) ⟨4, 18⟩ [] keep
def F2 (c : (List Int) × Int) (s : Int) : Fr := [(0, .ls (.ints .i64 c.1)), (1, .pv (.int .i64 c.2)), (5, .pv (.int .i64 s))]
def d2 : Fr → Option (((List Int) × Int) × (Int))
  | [(0, .ls (.ints .i64 l0)), (1, .pv (.int .i64 x1)), (5, .pv (.int .i64 i5))] => some ((l0, x1), i5)
  | _ => none
def st2 {ρ : Type} (n : Nat) (c : (List Int) × Int) (Ko : Exit → Fr → Option ρ) (s : Int) (nx : Int → Option ρ) : Option ρ :=
  Gm.ref2_Lies_s2 n c.1 c.2 s nx (Ko .ret [(4, .pv (.bool true))]) (Ko (.exit 0) [])
noncomputable def tab (ρ : Type) (n : Nat) : Tab ρ := { live := [(0, [0, 1]), (1, [0, 1, 5]), (2, [0, 1, 5, 9]), (3, [0, 1, 5]), (4, [0, 1, 5, 17]), (5, [4]), (6, [4])], xl := [(0, []), (1, [0, 1, 5])], rl := [4], fz := [], jp := [], lp := [(2, fun A Ko => bnd (d2 A) fun p => iterM (st2 n p.1 Ko) n p.2)] }
noncomputable def b2 : Code := (cL (cB (c2 (c1 (c2 body)))))
theorem d2_ok (A : Fr) (c : (List Int) × Int) (s : Int) (h : d2 A = some (c, s)) : A = F2 c s := by
  unfold d2 at h
  split at h
  · cases h; rfl
  · cases h
theorem step2 (ρ : Type) (n : Nat) (c : (List Int) × Int) (Ko : Exit → Fr → Option ρ) (s : Int) (nx : ((List Int) × Int) → (Int) → Option ρ) :
    AEO (env n) (answers ρ (used n) (used n)) (tab ρ n) b2 (F2 c s) (thenO (fun A => bnd (d2 (restr (keepOf (env n) b2) A)) fun p => nx p.1 p.2) Ko) = st2 n c Ko s (nx c) := by kernel_rfl
theorem lp2_ok {ρ : Type} (n : Nat) (hl : EntsOK Tryd.prog gl (used n)) : ∀ (A : Fr) (Ko : Exit → Fr → Option ρ) (r : ρ) (K : Exit → Fr → Prop), (bnd (d2 (restr (keepOf (env n) b2) A)) fun p => iterM (st2 n p.1 Ko) n p.2) = some r → (∀ e A, Ko e A = some r → K e A) → Gx.Sem Tryd.prog (env n) (.loop b2) A K :=
  fun A Ko r K h hk => loop_cod (P := Tryd.prog) (E := env n) (T := tab ρ n) (fun _ _ _ h => answers_ok h) F2 d2 (st2 n) d2_ok (show Cov _ (env n) (tab ρ n) b2 from ⟨⟨trivial, ⟨trivial, trivial⟩⟩, ⟨⟨trivial, ⟨⟨trivial, trivial⟩, trivial⟩⟩, trivial⟩⟩) (fun c Ko s nx => step2 ρ n c Ko s nx) n A Ko r K h hk
def enc (a : (List Int) × Int) : List AV := [.ls (.ints .i64 a.1), .pv (.int .i64 a.2)]
def dec : List AV → Option ((List Int) × Int)
  | [.ls (.ints .i64 l0), .pv (.int .i64 x1)] => some (l0, x1)
  | _ => none
def emb (b : Bool) : AV × List AV := (.pv (.bool b), [])
def dr : AV → List AV → Option (Bool)
  | .pv (.bool r0), [] => some r0
  | _, _ => none
theorem dec_ok (vs : List AV) (a : (List Int) × Int) (h : dec vs = some a) : vs = enc a := by
  unfold dec at h
  split at h
  · cases h; rfl
  · cases h
theorem dr_ok (v : AV) (o : List AV) (b : Bool) (h : dr v o = some b) : emb b = (v, o) := by
  unfold dr at h
  split at h
  · cases h; rfl
  · cases h
noncomputable def ent (n : Nat) : Ent := { f := 71, ms := [.lend, .lend], α := (List Int) × Int, β := Bool, dec := dec, enc := enc, emb := emb, m := fun a => Gm.ref2_Lies n a.1 a.2, hdec := dec_ok }
theorem run (n : Nat) (a : (List Int) × Int) : AEO (env n) (answers (Bool) (used n) (used n)) (tab (Bool) n) body (frameOf (enc a) 0) (bodyO (env n) Tryd.f71.results.toList (enc a) dr) = (ent n).m a := by kernel_rfl
theorem ok (n : Nat) (hl : EntsOK Tryd.prog gl (used n)) : EntOK Tryd.prog gl (ent n) :=
  fnO_sound (P := Tryd.prog) (e := ent n) (fn := Tryd.f71) (body := body) (l := used n) (te := te) (gl := gl) (n := ⟨4, 18⟩) (cut := []) (keep := keep) (T := tab (Bool) n) (dr := dr) Tryd.func71 (by kernel_rfl) (by kernel_rfl) te_ok (by kernel_rfl) (by kernel_rfl) hl (show Cov _ (env n) (tab (Bool) n) body from ⟨trivial, ⟨⟨trivial, lp2_ok n hl⟩, ⟨trivial, trivial⟩⟩⟩) dr_ok (fun a => ⟨rfl, rfl⟩) (run n)
theorem all_ok (n : Nat) : EntOK Tryd.prog gl (ent n) := ok n trivial
end W_ref2_Lies
namespace W_ref2_TripleFault
noncomputable def body : Code := Tryd.f25.body.getD .skip
def keep : List (Nat × List Nat) := [(5, [1, 4]), (10, [1, 5]), (13, [1, 5, 6]), (17, [1, 5, 6, 7, 8])]
noncomputable def used (n : Nat) : List Ent := [W_ref2_DesignFault.ent n, W_ref2_Lies.ent n]
noncomputable def env (n : Nat) : Env := envOf te gl (used n) ⟨1, 70⟩ [] keep
def F5 (c : Int × (List (List Int))) (s : Int) : Fr := [(1, .bx [.pv (.int .i64 c.1), .ls (.rows c.2)]), (4, .pv (.int .i64 s))]
def d5 : Fr → Option ((Int × (List (List Int))) × (Int))
  | [(1, .bx [.pv (.int .i64 t1_0), .ls (.rows t1_1)]), (4, .pv (.int .i64 t4))] => some ((t1_0, t1_1), t4)
  | _ => none
def st5 {ρ : Type} (n : Nat) (c : Int × (List (List Int))) (Ko : Exit → Fr → Option ρ) (s : Int) (nx : Int → Option ρ) : Option ρ :=
  Gm.ref2_TripleFault_s5 n c.1 c.2 s nx (Ko .ret [(2, .pv (.int .i64 4))]) (Ko (.exit 0) [(1, .bx [.pv (.int .i64 c.1), .ls (.rows c.2)])])
def F17 (c : Int × (List (List Int)) × Int × Int) (s : Int × Int) : Fr := [(1, .bx [.pv (.int .i64 c.1), .ls (.rows c.2.1)]), (5, .pv (.int .i64 c.2.2.1)), (6, .pv (.int .i64 c.2.2.2)), (7, .pv (.int .i64 s.1)), (8, .pv (.int .i64 s.2))]
def d17 : Fr → Option ((Int × (List (List Int)) × Int × Int) × (Int × Int))
  | [(1, .bx [.pv (.int .i64 t1_0), .ls (.rows t1_1)]), (5, .pv (.int .i64 t5)), (6, .pv (.int .i64 t6)), (7, .pv (.int .i64 t7)), (8, .pv (.int .i64 t8))] => some ((t1_0, t1_1, t5, t6), (t7, t8))
  | _ => none
def st17 {ρ : Type} (n : Nat) (c : Int × (List (List Int)) × Int × Int) (Ko : Exit → Fr → Option ρ) (s : Int × Int) (nx : (Int × Int) → Option ρ) : Option ρ :=
  Gm.ref2_TripleFault_s17 n c.1 c.2.1 c.2.2.1 c.2.2.2 s.1 s.2 (fun a0 a1 => nx (a0, a1)) (fun (y0 : Int) => Ko (.exit 6) [(1, .bx [.pv (.int .i64 c.1), .ls (.rows c.2.1)]), (5, .pv (.int .i64 c.2.2.1)), (6, .pv (.int .i64 c.2.2.2)), (7, .pv (.int .i64 y0))])
def F13 (c : Int × (List (List Int)) × Int) (s : Int) : Fr := [(1, .bx [.pv (.int .i64 c.1), .ls (.rows c.2.1)]), (5, .pv (.int .i64 c.2.2)), (6, .pv (.int .i64 s))]
def d13 : Fr → Option ((Int × (List (List Int)) × Int) × (Int))
  | [(1, .bx [.pv (.int .i64 t1_0), .ls (.rows t1_1)]), (5, .pv (.int .i64 t5)), (6, .pv (.int .i64 t6))] => some ((t1_0, t1_1, t5), t6)
  | _ => none
def st13 {ρ : Type} (n : Nat) (c : Int × (List (List Int)) × Int) (Ko : Exit → Fr → Option ρ) (s : Int) (nx : Int → Option ρ) : Option ρ :=
  Gm.ref2_TripleFault_s13 n c.1 c.2.1 c.2.2 s nx (Ko .ret [(2, .pv (.int .i64 4))]) (Ko (.exit 4) [(1, .bx [.pv (.int .i64 c.1), .ls (.rows c.2.1)]), (5, .pv (.int .i64 c.2.2))])
def F10 (c : Int × (List (List Int))) (s : Int) : Fr := [(1, .bx [.pv (.int .i64 c.1), .ls (.rows c.2)]), (5, .pv (.int .i64 s))]
def d10 : Fr → Option ((Int × (List (List Int))) × (Int))
  | [(1, .bx [.pv (.int .i64 t1_0), .ls (.rows t1_1)]), (5, .pv (.int .i64 t5))] => some ((t1_0, t1_1), t5)
  | _ => none
def st10 {ρ : Type} (n : Nat) (c : Int × (List (List Int))) (Ko : Exit → Fr → Option ρ) (s : Int) (nx : Int → Option ρ) : Option ρ :=
  Gm.ref2_TripleFault_s10 n c.1 c.2 s nx (Ko .ret [(2, .pv (.int .i64 4))]) (Ko (.exit 2) [])
noncomputable def tab (ρ : Type) (n : Nat) : Tab ρ := { live := [(0, [1]), (1, [1, 3]), (2, [1, 3, 14]), (3, [2]), (4, [1, 4]), (5, [1, 4, 20]), (6, [1, 4]), (7, [1, 4, 29]), (8, [2]), (9, [1, 5]), (10, [1, 5, 33]), (11, [1, 5]), (12, [1, 5, 6]), (13, [1, 5, 6, 38]), (14, [1, 5, 6]), (15, [1, 5, 6, 7]), (16, [1, 5, 6, 7, 8]), (17, [1, 5, 6, 7, 8, 45]), (18, [1, 5, 6, 7, 8]), (19, [1, 5, 6, 7, 8, 9]), (20, [1, 5, 6, 7, 8, 9, 10]), (21, [1, 5, 6, 7, 8, 65]), (22, [1, 5, 6, 7, 8]), (23, [1, 5, 6, 69]), (24, [2]), (25, [2])], xl := [(0, [1]), (1, [1, 4]), (2, []), (3, [1, 5]), (4, [1, 5]), (5, [1, 5, 6]), (6, [1, 5, 6, 7]), (7, [1, 5, 6, 7, 8])], rl := [2], fz := [], jp := [], lp := [(5, fun A Ko => bnd (d5 A) fun p => iterM (st5 n p.1 Ko) n p.2), (17, fun A Ko => bnd (d17 A) fun p => iterM (st17 n p.1 Ko) n p.2), (13, fun A Ko => bnd (d13 A) fun p => iterM (st13 n p.1 Ko) n p.2), (10, fun A Ko => bnd (d10 A) fun p => iterM (st10 n p.1 Ko) n p.2)] }
noncomputable def b5 : Code := (cL (cB (c2 (c1 (c2 (c2 (c2 body)))))))
theorem d5_ok (A : Fr) (c : Int × (List (List Int))) (s : Int) (h : d5 A = some (c, s)) : A = F5 c s := by
  unfold d5 at h
  split at h
  · cases h; rfl
  · cases h
theorem step5 (ρ : Type) (n : Nat) (c : Int × (List (List Int))) (Ko : Exit → Fr → Option ρ) (s : Int) (nx : (Int × (List (List Int))) → (Int) → Option ρ) :
    AEO (env n) (answers ρ (used n) (used n)) (tab ρ n) b5 (F5 c s) (thenO (fun A => bnd (d5 (restr (keepOf (env n) b5) A)) fun p => nx p.1 p.2) Ko) = st5 n c Ko s (nx c) := by kernel_rfl
theorem lp5_ok {ρ : Type} (n : Nat) (hl : EntsOK Tryd.prog gl (used n)) : ∀ (A : Fr) (Ko : Exit → Fr → Option ρ) (r : ρ) (K : Exit → Fr → Prop), (bnd (d5 (restr (keepOf (env n) b5) A)) fun p => iterM (st5 n p.1 Ko) n p.2) = some r → (∀ e A, Ko e A = some r → K e A) → Gx.Sem Tryd.prog (env n) (.loop b5) A K :=
  fun A Ko r K h hk => loop_cod (P := Tryd.prog) (E := env n) (T := tab ρ n) (fun _ _ _ h => answers_ok h) F5 d5 (st5 n) d5_ok (show Cov _ (env n) (tab ρ n) b5 from ⟨⟨trivial, ⟨trivial, trivial⟩⟩, ⟨⟨trivial, ⟨⟨trivial, trivial⟩, trivial⟩⟩, trivial⟩⟩) (fun c Ko s nx => step5 ρ n c Ko s nx) n A Ko r K h hk
noncomputable def b17 : Code := (cL (cB (c2 (c1 (c2 (cB (c1 (c2 (cL (cB (c2 (cB (c1 (c2 (cL (cB (c2 (c1 (c2 (c2 (c2 (c2 body))))))))))))))))))))))
theorem d17_ok (A : Fr) (c : Int × (List (List Int)) × Int × Int) (s : Int × Int) (h : d17 A = some (c, s)) : A = F17 c s := by
  unfold d17 at h
  split at h
  · cases h; rfl
  · cases h
theorem step17 (ρ : Type) (n : Nat) (c : Int × (List (List Int)) × Int × Int) (Ko : Exit → Fr → Option ρ) (s : Int × Int) (nx : (Int × (List (List Int)) × Int × Int) → (Int × Int) → Option ρ) :
    AEO (env n) (answers ρ (used n) (used n)) (tab ρ n) b17 (F17 c s) (thenO (fun A => bnd (d17 (restr (keepOf (env n) b17) A)) fun p => nx p.1 p.2) Ko) = st17 n c Ko s (nx c) := by kernel_rfl
theorem lp17_ok {ρ : Type} (n : Nat) (hl : EntsOK Tryd.prog gl (used n)) : ∀ (A : Fr) (Ko : Exit → Fr → Option ρ) (r : ρ) (K : Exit → Fr → Prop), (bnd (d17 (restr (keepOf (env n) b17) A)) fun p => iterM (st17 n p.1 Ko) n p.2) = some r → (∀ e A, Ko e A = some r → K e A) → Gx.Sem Tryd.prog (env n) (.loop b17) A K :=
  fun A Ko r K h hk => loop_cod (P := Tryd.prog) (E := env n) (T := tab ρ n) (fun _ _ _ h => answers_ok h) F17 d17 (st17 n) d17_ok (show Cov _ (env n) (tab ρ n) b17 from ⟨⟨trivial, ⟨trivial, trivial⟩⟩, ⟨⟨trivial, ⟨trivial, ⟨trivial, ⟨trivial, trivial⟩⟩⟩⟩, trivial⟩⟩) (fun c Ko s nx => step17 ρ n c Ko s nx) n A Ko r K h hk
noncomputable def b13 : Code := (cL (cB (c2 (cB (c1 (c2 (cL (cB (c2 (c1 (c2 (c2 (c2 (c2 body))))))))))))))
theorem d13_ok (A : Fr) (c : Int × (List (List Int)) × Int) (s : Int) (h : d13 A = some (c, s)) : A = F13 c s := by
  unfold d13 at h
  split at h
  · cases h; rfl
  · cases h
theorem step13 (ρ : Type) (n : Nat) (c : Int × (List (List Int)) × Int) (Ko : Exit → Fr → Option ρ) (s : Int) (nx : (Int × (List (List Int)) × Int) → (Int) → Option ρ) :
    AEO (env n) (answers ρ (used n) (used n)) (tab ρ n) b13 (F13 c s) (thenO (fun A => bnd (d13 (restr (keepOf (env n) b13) A)) fun p => nx p.1 p.2) Ko) = st13 n c Ko s (nx c) := by kernel_rfl
theorem lp13_ok {ρ : Type} (n : Nat) (hl : EntsOK Tryd.prog gl (used n)) : ∀ (A : Fr) (Ko : Exit → Fr → Option ρ) (r : ρ) (K : Exit → Fr → Prop), (bnd (d13 (restr (keepOf (env n) b13) A)) fun p => iterM (st13 n p.1 Ko) n p.2) = some r → (∀ e A, Ko e A = some r → K e A) → Gx.Sem Tryd.prog (env n) (.loop b13) A K :=
  fun A Ko r K h hk => loop_cod (P := Tryd.prog) (E := env n) (T := tab ρ n) (fun _ _ _ h => answers_ok h) F13 d13 (st13 n) d13_ok (show Cov _ (env n) (tab ρ n) b13 from ⟨⟨trivial, ⟨trivial, trivial⟩⟩, ⟨⟨trivial, ⟨⟨trivial, lp17_ok n hl⟩, ⟨trivial, ⟨⟨trivial, trivial⟩, trivial⟩⟩⟩⟩, trivial⟩⟩) (fun c Ko s nx => step13 ρ n c Ko s nx) n A Ko r K h hk
noncomputable def b10 : Code := (cL (cB (c2 (c1 (c2 (c2 (c2 (c2 body))))))))
theorem d10_ok (A : Fr) (c : Int × (List (List Int))) (s : Int) (h : d10 A = some (c, s)) : A = F10 c s := by
  unfold d10 at h
  split at h
  · cases h; rfl
  · cases h
theorem step10 (ρ : Type) (n : Nat) (c : Int × (List (List Int))) (Ko : Exit → Fr → Option ρ) (s : Int) (nx : (Int × (List (List Int))) → (Int) → Option ρ) :
    AEO (env n) (answers ρ (used n) (used n)) (tab ρ n) b10 (F10 c s) (thenO (fun A => bnd (d10 (restr (keepOf (env n) b10) A)) fun p => nx p.1 p.2) Ko) = st10 n c Ko s (nx c) := by kernel_rfl
theorem lp10_ok {ρ : Type} (n : Nat) (hl : EntsOK Tryd.prog gl (used n)) : ∀ (A : Fr) (Ko : Exit → Fr → Option ρ) (r : ρ) (K : Exit → Fr → Prop), (bnd (d10 (restr (keepOf (env n) b10) A)) fun p => iterM (st10 n p.1 Ko) n p.2) = some r → (∀ e A, Ko e A = some r → K e A) → Gx.Sem Tryd.prog (env n) (.loop b10) A K :=
  fun A Ko r K h hk => loop_cod (P := Tryd.prog) (E := env n) (T := tab ρ n) (fun _ _ _ h => answers_ok h) F10 d10 (st10 n) d10_ok (show Cov _ (env n) (tab ρ n) b10 from ⟨⟨trivial, ⟨trivial, trivial⟩⟩, ⟨⟨trivial, lp13_ok n hl⟩, trivial⟩⟩) (fun c Ko s nx => step10 ρ n c Ko s nx) n A Ko r K h hk
def enc (a : Int × (List (List Int))) : List AV := [.ag [.pv (.int .i64 a.1), .ls (.rows a.2)]]
def dec : List AV → Option (Int × (List (List Int)))
  | [.ag [.pv (.int .i64 toArray0_0), .ls (.rows toArray0_1)]] => some (toArray0_0, toArray0_1)
  | _ => none
def emb (b : Int) : AV × List AV := (.pv (.int .i64 b), [])
def dr : AV → List AV → Option (Int)
  | .pv (.int .i64 r0), [] => some r0
  | _, _ => none
theorem dec_ok (vs : List AV) (a : Int × (List (List Int))) (h : dec vs = some a) : vs = enc a := by
  unfold dec at h
  split at h
  · cases h; rfl
  · cases h
theorem dr_ok (v : AV) (o : List AV) (b : Int) (h : dr v o = some b) : emb b = (v, o) := by
  unfold dr at h
  split at h
  · cases h; rfl
  · cases h
noncomputable def ent (n : Nat) : Ent := { f := 25, ms := [.lend], α := Int × (List (List Int)), β := Int, dec := dec, enc := enc, emb := emb, m := fun a => Gm.ref2_TripleFault n a.1 a.2, hdec := dec_ok }
theorem run (n : Nat) (a : Int × (List (List Int))) : AEO (env n) (answers (Int) (used n) (used n)) (tab (Int) n) body (frameOf (enc a) 0) (bodyO (env n) Tryd.f25.results.toList (enc a) dr) = (ent n).m a := by kernel_rfl
theorem ok (n : Nat) (hl : EntsOK Tryd.prog gl (used n)) : EntOK Tryd.prog gl (ent n) :=
  fnO_sound (P := Tryd.prog) (e := ent n) (fn := Tryd.f25) (body := body) (l := used n) (te := te) (gl := gl) (n := ⟨1, 70⟩) (cut := []) (keep := keep) (T := tab (Int) n) (dr := dr) Tryd.func25 (by kernel_rfl) (by kernel_rfl) te_ok (by kernel_rfl) (by kernel_rfl) hl (show Cov _ (env n) (tab (Int) n) body from ⟨trivial, ⟨trivial, ⟨⟨trivial, ⟨⟨trivial, trivial⟩, trivial⟩⟩, ⟨⟨trivial, lp5_ok n hl⟩, ⟨⟨trivial, lp10_ok n hl⟩, ⟨trivial, trivial⟩⟩⟩⟩⟩⟩) dr_ok (fun a => ⟨rfl, rfl⟩) (run n)
theorem all_ok (n : Nat) : EntOK Tryd.prog gl (ent n) := ok n ⟨W_ref2_DesignFault.all_ok n, W_ref2_Lies.all_ok n, trivial⟩
end W_ref2_TripleFault
namespace W_design_Check_1
noncomputable def body : Code := Tryd.f86.body.getD .skip
def keep : List (Nat × List Nat) := []
noncomputable def used (_n : Nat) : List Ent := []
noncomputable def env (n : Nat) : Env := envOf te gl (used n) ⟨3, 12⟩ [] keep
noncomputable def tab (ρ : Type) (_n : Nat) : Tab ρ := { live := [(0, [0, 1]), (1, [3])], xl := [], rl := [3], fz := [], jp := [], lp := [] }
def enc (a : Int × Int × (List (List Int))) : List AV := [.pv (.int .i64 a.1), .lb [.pv (.int .i64 a.2.1), .ls (.rows a.2.2)] 0]
def dec : List AV → Option (Int × Int × (List (List Int)))
  | [.pv (.int .i64 p0), .lb [.pv (.int .i64 t1_0), .ls (.rows t1_1)] 0] => some (p0, t1_0, t1_1)
  | _ => none
def emb (b : Bool) : AV × List AV := (.pv (.bool b), [])
def dr : AV → List AV → Option (Bool)
  | .pv (.bool r0), [] => some r0
  | _, _ => none
theorem dec_ok (vs : List AV) (a : Int × Int × (List (List Int))) (h : dec vs = some a) : vs = enc a := by
  unfold dec at h
  split at h
  · cases h; rfl
  · cases h
theorem dr_ok (v : AV) (o : List AV) (b : Bool) (h : dr v o = some b) : emb b = (v, o) := by
  unfold dr at h
  split at h
  · cases h; rfl
  · cases h
noncomputable def ent (n : Nat) : Ent := { f := 86, ms := [.lend], α := Int × Int × (List (List Int)), β := Bool, dec := dec, enc := enc, emb := emb, m := fun a => Gm.design_Check_1 n a.1 a.2.1 a.2.2, hdec := dec_ok }
theorem run (n : Nat) (a : Int × Int × (List (List Int))) : AEO (env n) (answers (Bool) (used n) (used n)) (tab (Bool) n) body (frameOf (enc a) 0) (bodyO (env n) Tryd.f86.results.toList (enc a) dr) = (ent n).m a := by kernel_rfl
theorem ok (n : Nat) (hl : EntsOK Tryd.prog gl (used n)) : EntOK Tryd.prog gl (ent n) :=
  fnO_sound (P := Tryd.prog) (e := ent n) (fn := Tryd.f86) (body := body) (l := used n) (te := te) (gl := gl) (n := ⟨3, 12⟩) (cut := []) (keep := keep) (T := tab (Bool) n) (dr := dr) Tryd.func86 (by kernel_rfl) (by kernel_rfl) te_ok (by kernel_rfl) (by kernel_rfl) hl (show Cov _ (env n) (tab (Bool) n) body from ⟨trivial, ⟨trivial, trivial⟩⟩) dr_ok (fun a => ⟨rfl, rfl⟩) (run n)
theorem all_ok (n : Nat) : EntOK Tryd.prog gl (ent n) := ok n trivial
end W_design_Check_1
namespace W_slices_IndexFunc_intint__design_Check_1
noncomputable def body : Code := Tryd.f100.body.getD .skip
def keep : List (Nat × List Nat) := [(2, [0, 1, 7, 8])]
noncomputable def used (n : Nat) : List Ent := [W_design_Check_1.ent n]
noncomputable def env (n : Nat) : Env := envOf te gl (used n) ⟨4, 19⟩ [] keep
def F2 (c : (List Int) × Int × (List (List Int)) × Int) (s : Int) : Fr := [(0, .ls (.ints .i64 c.1)), (1, .fn 86 [.lb [.pv (.int .i64 c.2.1), .ls (.rows c.2.2.1)] 0]), (7, .pv (.int .i64 c.2.2.2)), (8, .pv (.int .i64 s))]
def d2 : Fr → Option (((List Int) × Int × (List (List Int)) × Int) × (Int))
  | [(0, .ls (.ints .i64 s_0)), (1, .fn 86 [.lb [.pv (.int .i64 f1_0), .ls (.rows f1_1)] 0]), (7, .pv (.int .i64 t7)), (8, .pv (.int .i64 t8))] => some ((s_0, f1_0, f1_1, t7), t8)
  | _ => none
def st2 {ρ : Type} (n : Nat) (c : (List Int) × Int × (List (List Int)) × Int) (Ko : Exit → Fr → Option ρ) (s : Int) (nx : Int → Option ρ) : Option ρ :=
  Gm.slices_IndexFunc_intint__design_Check_1_s2 n c.1 c.2.1 c.2.2.1 c.2.2.2 s nx (fun (y0 : Int) => Ko .ret [(4, .pv (.int .i64 y0))]) (Ko (.exit 0) [])
noncomputable def tab (ρ : Type) (n : Nat) : Tab ρ := { live := [(0, [0, 1]), (1, [0, 1, 7, 8]), (2, [0, 1, 7, 8, 9]), (3, [0, 1, 5, 7, 8]), (4, [0, 1, 5, 7, 8, 16]), (5, [4]), (6, [0, 1, 7, 8]), (7, [4])], xl := [(0, []), (1, [0, 1, 7, 8])], rl := [4], fz := [], jp := [], lp := [(2, fun A Ko => bnd (d2 A) fun p => iterM (st2 n p.1 Ko) n p.2)] }
noncomputable def b2 : Code := (cL (cB (c2 (c1 (c2 body)))))
theorem d2_ok (A : Fr) (c : (List Int) × Int × (List (List Int)) × Int) (s : Int) (h : d2 A = some (c, s)) : A = F2 c s := by
  unfold d2 at h
  split at h
  · cases h; rfl
  · cases h
theorem step2 (ρ : Type) (n : Nat) (c : (List Int) × Int × (List (List Int)) × Int) (Ko : Exit → Fr → Option ρ) (s : Int) (nx : ((List Int) × Int × (List (List Int)) × Int) → (Int) → Option ρ) :
    AEO (env n) (answers ρ (used n) (used n)) (tab ρ n) b2 (F2 c s) (thenO (fun A => bnd (d2 (restr (keepOf (env n) b2) A)) fun p => nx p.1 p.2) Ko) = st2 n c Ko s (nx c) := by kernel_rfl
theorem lp2_ok {ρ : Type} (n : Nat) (hl : EntsOK Tryd.prog gl (used n)) : ∀ (A : Fr) (Ko : Exit → Fr → Option ρ) (r : ρ) (K : Exit → Fr → Prop), (bnd (d2 (restr (keepOf (env n) b2) A)) fun p => iterM (st2 n p.1 Ko) n p.2) = some r → (∀ e A, Ko e A = some r → K e A) → Gx.Sem Tryd.prog (env n) (.loop b2) A K :=
  fun A Ko r K h hk => loop_cod (P := Tryd.prog) (E := env n) (T := tab ρ n) (fun _ _ _ h => answers_ok h) F2 d2 (st2 n) d2_ok (show Cov _ (env n) (tab ρ n) b2 from ⟨trivial, ⟨⟨trivial, trivial⟩, ⟨⟨trivial, ⟨trivial, ⟨⟨trivial, trivial⟩, trivial⟩⟩⟩, trivial⟩⟩⟩) (fun c Ko s nx => step2 ρ n c Ko s nx) n A Ko r K h hk
def enc (a : (List Int) × Int × (List (List Int))) : List AV := [.ls (.ints .i64 a.1), .fn 86 [.lb [.pv (.int .i64 a.2.1), .ls (.rows a.2.2)] 0]]
def dec : List AV → Option ((List Int) × Int × (List (List Int)))
  | [.ls (.ints .i64 s_0), .fn 86 [.lb [.pv (.int .i64 f1_0), .ls (.rows f1_1)] 0]] => some (s_0, f1_0, f1_1)
  | _ => none
def emb (b : Int) : AV × List AV := (.pv (.int .i64 b), [])
def dr : AV → List AV → Option (Int)
  | .pv (.int .i64 r0), [] => some r0
  | _, _ => none
theorem dec_ok (vs : List AV) (a : (List Int) × Int × (List (List Int))) (h : dec vs = some a) : vs = enc a := by
  unfold dec at h
  split at h
  · cases h; rfl
  · cases h
theorem dr_ok (v : AV) (o : List AV) (b : Int) (h : dr v o = some b) : emb b = (v, o) := by
  unfold dr at h
  split at h
  · cases h; rfl
  · cases h
noncomputable def ent (n : Nat) : Ent := { f := 100, ms := [.lend, .lend], α := (List Int) × Int × (List (List Int)), β := Int, dec := dec, enc := enc, emb := emb, m := fun a => Gm.slices_IndexFunc_intint__design_Check_1 n a.1 a.2.1 a.2.2, hdec := dec_ok }
theorem run (n : Nat) (a : (List Int) × Int × (List (List Int))) : AEO (env n) (answers (Int) (used n) (used n)) (tab (Int) n) body (frameOf (enc a) 0) (bodyO (env n) Tryd.f100.results.toList (enc a) dr) = (ent n).m a := by kernel_rfl
theorem ok (n : Nat) (hl : EntsOK Tryd.prog gl (used n)) : EntOK Tryd.prog gl (ent n) :=
  fnO_sound (P := Tryd.prog) (e := ent n) (fn := Tryd.f100) (body := body) (l := used n) (te := te) (gl := gl) (n := ⟨4, 19⟩) (cut := []) (keep := keep) (T := tab (Int) n) (dr := dr) Tryd.func100 (by kernel_rfl) (by kernel_rfl) te_ok (by kernel_rfl) (by kernel_rfl) hl (show Cov _ (env n) (tab (Int) n) body from ⟨trivial, ⟨⟨trivial, lp2_ok n hl⟩, ⟨trivial, trivial⟩⟩⟩) dr_ok (fun a => ⟨rfl, rfl⟩) (run n)
theorem all_ok (n : Nat) : EntOK Tryd.prog gl (ent n) := ok n ⟨W_design_Check_1.all_ok n, trivial⟩
end W_slices_IndexFunc_intint__design_Check_1
namespace W_slices_ContainsFunc_intint__design_Check_1
noncomputable def body : Code := Tryd.f55.body.getD .skip
def keep : List (Nat × List Nat) := []
noncomputable def used (n : Nat) : List Ent := [W_slices_IndexFunc_intint__design_Check_1.ent n]
noncomputable def env (n : Nat) : Env := envOf te gl (used n) ⟨4, 9⟩ [] keep
noncomputable def tab (ρ : Type) (_n : Nat) : Tab ρ := { live := [(0, [0, 1]), (1, [4])], xl := [], rl := [4], fz := [], jp := [], lp := [] }
def enc (a : (List Int) × Int × (List (List Int))) : List AV := [.ls (.ints .i64 a.1), .fn 86 [.lb [.pv (.int .i64 a.2.1), .ls (.rows a.2.2)] 0]]
def dec : List AV → Option ((List Int) × Int × (List (List Int)))
  | [.ls (.ints .i64 s_0), .fn 86 [.lb [.pv (.int .i64 f1_0), .ls (.rows f1_1)] 0]] => some (s_0, f1_0, f1_1)
  | _ => none
def emb (b : Bool) : AV × List AV := (.pv (.bool b), [])
def dr : AV → List AV → Option (Bool)
  | .pv (.bool r0), [] => some r0
  | _, _ => none
theorem dec_ok (vs : List AV) (a : (List Int) × Int × (List (List Int))) (h : dec vs = some a) : vs = enc a := by
  unfold dec at h
  split at h
  · cases h; rfl
  · cases h
theorem dr_ok (v : AV) (o : List AV) (b : Bool) (h : dr v o = some b) : emb b = (v, o) := by
  unfold dr at h
  split at h
  · cases h; rfl
  · cases h
noncomputable def ent (n : Nat) : Ent := { f := 55, ms := [.lend, .lend], α := (List Int) × Int × (List (List Int)), β := Bool, dec := dec, enc := enc, emb := emb, m := fun a => Gm.slices_ContainsFunc_intint__design_Check_1 n a.1 a.2.1 a.2.2, hdec := dec_ok }
theorem run (n : Nat) (a : (List Int) × Int × (List (List Int))) : AEO (env n) (answers (Bool) (used n) (used n)) (tab (Bool) n) body (frameOf (enc a) 0) (bodyO (env n) Tryd.f55.results.toList (enc a) dr) = (ent n).m a := by kernel_rfl
theorem ok (n : Nat) (hl : EntsOK Tryd.prog gl (used n)) : EntOK Tryd.prog gl (ent n) :=
  fnO_sound (P := Tryd.prog) (e := ent n) (fn := Tryd.f55) (body := body) (l := used n) (te := te) (gl := gl) (n := ⟨4, 9⟩) (cut := []) (keep := keep) (T := tab (Bool) n) (dr := dr) Tryd.func55 (by kernel_rfl) (by kernel_rfl) te_ok (by kernel_rfl) (by kernel_rfl) hl (show Cov _ (env n) (tab (Bool) n) body from ⟨trivial, ⟨trivial, trivial⟩⟩) dr_ok (fun a => ⟨rfl, rfl⟩) (run n)
theorem all_ok (n : Nat) : EntOK Tryd.prog gl (ent n) := ok n ⟨W_slices_IndexFunc_intint__design_Check_1.all_ok n, trivial⟩
end W_slices_ContainsFunc_intint__design_Check_1
namespace W_design_Check
noncomputable def body : Code := Tryd.f40.body.getD .skip
def keep : List (Nat × List Nat) := [(6, [1, 21, 22, 23]), (11, [1, 4, 5, 21, 22, 23])]
noncomputable def used (n : Nat) : List Ent := [W_slices_ContainsFunc_intint__design_Check_1.ent n]
noncomputable def env (n : Nat) : Env := envOf te gl (used n) ⟨1, 47⟩ [] keep
def F11 (c : Int × (List (List Int)) × (List Int) × (List (List Int)) × Int × Int) (s : Int) : Fr := [(1, .bx [.pv (.int .i64 c.1), .ls (.rows c.2.1)]), (4, .sl (.ints .i64 c.2.2.1)), (5, .pv (.int .i64 s)), (21, .ls (.rows c.2.2.2.1)), (22, .pv (.int .i64 c.2.2.2.2.1)), (23, .pv (.int .i64 c.2.2.2.2.2))]
def d11 : Fr → Option ((Int × (List (List Int)) × (List Int) × (List (List Int)) × Int × Int) × (Int))
  | [(1, .bx [.pv (.int .i64 d1_0), .ls (.rows d1_1)]), (4, .sl (.ints .i64 b4)), (5, .pv (.int .i64 i5)), (21, .ls (.rows t21)), (22, .pv (.int .i64 t22)), (23, .pv (.int .i64 t23))] => some ((d1_0, d1_1, b4, t21, t22, t23), i5)
  | _ => none
def st11 {ρ : Type} (n : Nat) (c : Int × (List (List Int)) × (List Int) × (List (List Int)) × Int × Int) (Ko : Exit → Fr → Option ρ) (s : Int) (nx : Int → Option ρ) : Option ρ :=
  Gm.design_Check_s11 n c.1 c.2.1 c.2.2.1 c.2.2.2.1 c.2.2.2.2.1 c.2.2.2.2.2 s nx (Ko .ret [(2, .pv (.int .i64 2))]) (Ko (.exit 3) [(1, .bx [.pv (.int .i64 c.1), .ls (.rows c.2.1)]), (21, .ls (.rows c.2.2.2.1)), (22, .pv (.int .i64 c.2.2.2.2.1)), (23, .pv (.int .i64 c.2.2.2.2.2))])
def F6 (c : Int × (List (List Int)) × (List (List Int)) × Int) (s : Int) : Fr := [(1, .bx [.pv (.int .i64 c.1), .ls (.rows c.2.1)]), (21, .ls (.rows c.2.2.1)), (22, .pv (.int .i64 c.2.2.2)), (23, .pv (.int .i64 s))]
def d6 : Fr → Option ((Int × (List (List Int)) × (List (List Int)) × Int) × (Int))
  | [(1, .bx [.pv (.int .i64 d1_0), .ls (.rows d1_1)]), (21, .ls (.rows t21)), (22, .pv (.int .i64 t22)), (23, .pv (.int .i64 t23))] => some ((d1_0, d1_1, t21, t22), t23)
  | _ => none
def st6 {ρ : Type} (n : Nat) (c : Int × (List (List Int)) × (List (List Int)) × Int) (Ko : Exit → Fr → Option ρ) (s : Int) (nx : Int → Option ρ) : Option ρ :=
  Gm.design_Check_s6 n c.1 c.2.1 c.2.2.1 c.2.2.2 s nx (Ko .ret [(2, .pv (.int .i64 1))]) (Ko .ret [(2, .pv (.int .i64 2))]) (Ko (.exit 1) [])
noncomputable def tab (ρ : Type) (n : Nat) : Tab ρ := { live := [(0, [1]), (1, [1, 6]), (2, [2]), (3, [1, 15]), (4, [2]), (5, [1, 21, 22, 23]), (6, [1, 21, 22, 23, 24]), (7, [1, 4, 21, 22, 23]), (8, [1, 4, 21, 22, 23, 29]), (9, [2]), (10, [1, 4, 5, 21, 22, 23]), (11, [1, 4, 5, 21, 22, 23, 33]), (12, [1, 4, 5, 21, 22, 23]), (13, [1, 4, 5, 21, 22, 23, 45]), (14, [2]), (15, [1, 21, 22, 23]), (16, [2])], xl := [(0, [1]), (1, []), (2, [1, 21, 22, 23]), (3, [1, 21, 22, 23]), (4, [1, 4, 5, 21, 22, 23])], rl := [2], fz := [], jp := [], lp := [(11, fun A Ko => bnd (d11 A) fun p => iterM (st11 n p.1 Ko) n p.2), (6, fun A Ko => bnd (d6 A) fun p => iterM (st6 n p.1 Ko) n p.2)] }
noncomputable def b11 : Code := (cL (cB (c2 (c2 (c2 (cB (c1 (c2 (c2 (cL (cB (c2 (c1 (c2 (c2 body)))))))))))))))
theorem d11_ok (A : Fr) (c : Int × (List (List Int)) × (List Int) × (List (List Int)) × Int × Int) (s : Int) (h : d11 A = some (c, s)) : A = F11 c s := by
  unfold d11 at h
  split at h
  · cases h; rfl
  · cases h
theorem step11 (ρ : Type) (n : Nat) (c : Int × (List (List Int)) × (List Int) × (List (List Int)) × Int × Int) (Ko : Exit → Fr → Option ρ) (s : Int) (nx : (Int × (List (List Int)) × (List Int) × (List (List Int)) × Int × Int) → (Int) → Option ρ) :
    AEO (env n) (answers ρ (used n) (used n)) (tab ρ n) b11 (F11 c s) (thenO (fun A => bnd (d11 (restr (keepOf (env n) b11) A)) fun p => nx p.1 p.2) Ko) = st11 n c Ko s (nx c) := by kernel_rfl
theorem lp11_ok {ρ : Type} (n : Nat) (hl : EntsOK Tryd.prog gl (used n)) : ∀ (A : Fr) (Ko : Exit → Fr → Option ρ) (r : ρ) (K : Exit → Fr → Prop), (bnd (d11 (restr (keepOf (env n) b11) A)) fun p => iterM (st11 n p.1 Ko) n p.2) = some r → (∀ e A, Ko e A = some r → K e A) → Gx.Sem Tryd.prog (env n) (.loop b11) A K :=
  fun A Ko r K h hk => loop_cod (P := Tryd.prog) (E := env n) (T := tab ρ n) (fun _ _ _ h => answers_ok h) F11 d11 (st11 n) d11_ok (show Cov _ (env n) (tab ρ n) b11 from ⟨⟨trivial, ⟨trivial, trivial⟩⟩, ⟨⟨trivial, ⟨⟨trivial, trivial⟩, trivial⟩⟩, trivial⟩⟩) (fun c Ko s nx => step11 ρ n c Ko s nx) n A Ko r K h hk
noncomputable def b6 : Code := (cL (cB (c2 (c1 (c2 (c2 body))))))
theorem d6_ok (A : Fr) (c : Int × (List (List Int)) × (List (List Int)) × Int) (s : Int) (h : d6 A = some (c, s)) : A = F6 c s := by
  unfold d6 at h
  split at h
  · cases h; rfl
  · cases h
theorem step6 (ρ : Type) (n : Nat) (c : Int × (List (List Int)) × (List (List Int)) × Int) (Ko : Exit → Fr → Option ρ) (s : Int) (nx : (Int × (List (List Int)) × (List (List Int)) × Int) → (Int) → Option ρ) :
    AEO (env n) (answers ρ (used n) (used n)) (tab ρ n) b6 (F6 c s) (thenO (fun A => bnd (d6 (restr (keepOf (env n) b6) A)) fun p => nx p.1 p.2) Ko) = st6 n c Ko s (nx c) := by kernel_rfl
theorem lp6_ok {ρ : Type} (n : Nat) (hl : EntsOK Tryd.prog gl (used n)) : ∀ (A : Fr) (Ko : Exit → Fr → Option ρ) (r : ρ) (K : Exit → Fr → Prop), (bnd (d6 (restr (keepOf (env n) b6) A)) fun p => iterM (st6 n p.1 Ko) n p.2) = some r → (∀ e A, Ko e A = some r → K e A) → Gx.Sem Tryd.prog (env n) (.loop b6) A K :=
  fun A Ko r K h hk => loop_cod (P := Tryd.prog) (E := env n) (T := tab ρ n) (fun _ _ _ h => answers_ok h) F6 d6 (st6 n) d6_ok (show Cov _ (env n) (tab ρ n) b6 from ⟨trivial, ⟨⟨trivial, trivial⟩, ⟨⟨trivial, ⟨⟨trivial, ⟨⟨trivial, trivial⟩, trivial⟩⟩, ⟨trivial, lp11_ok n hl⟩⟩⟩, trivial⟩⟩⟩) (fun c Ko s nx => step6 ρ n c Ko s nx) n A Ko r K h hk
def enc (a : Int × (List (List Int))) : List AV := [.ag [.pv (.int .i64 a.1), .ls (.rows a.2)]]
def dec : List AV → Option (Int × (List (List Int)))
  | [.ag [.pv (.int .i64 d0_0), .ls (.rows d0_1)]] => some (d0_0, d0_1)
  | _ => none
def emb (b : Int) : AV × List AV := (.pv (.int .i64 b), [])
def dr : AV → List AV → Option (Int)
  | .pv (.int .i64 r0), [] => some r0
  | _, _ => none
theorem dec_ok (vs : List AV) (a : Int × (List (List Int))) (h : dec vs = some a) : vs = enc a := by
  unfold dec at h
  split at h
  · cases h; rfl
  · cases h
theorem dr_ok (v : AV) (o : List AV) (b : Int) (h : dr v o = some b) : emb b = (v, o) := by
  unfold dr at h
  split at h
  · cases h; rfl
  · cases h
noncomputable def ent (n : Nat) : Ent := { f := 40, ms := [.lend], α := Int × (List (List Int)), β := Int, dec := dec, enc := enc, emb := emb, m := fun a => Gm.design_Check n a.1 a.2, hdec := dec_ok }
theorem run (n : Nat) (a : Int × (List (List Int))) : AEO (env n) (answers (Int) (used n) (used n)) (tab (Int) n) body (frameOf (enc a) 0) (bodyO (env n) Tryd.f40.results.toList (enc a) dr) = (ent n).m a := by kernel_rfl
theorem ok (n : Nat) (hl : EntsOK Tryd.prog gl (used n)) : EntOK Tryd.prog gl (ent n) :=
  fnO_sound (P := Tryd.prog) (e := ent n) (fn := Tryd.f40) (body := body) (l := used n) (te := te) (gl := gl) (n := ⟨1, 47⟩) (cut := []) (keep := keep) (T := tab (Int) n) (dr := dr) Tryd.func40 (by kernel_rfl) (by kernel_rfl) te_ok (by kernel_rfl) (by kernel_rfl) hl (show Cov _ (env n) (tab (Int) n) body from ⟨trivial, ⟨⟨trivial, ⟨⟨trivial, trivial⟩, ⟨trivial, ⟨⟨trivial, trivial⟩, trivial⟩⟩⟩⟩, ⟨⟨trivial, lp6_ok n hl⟩, ⟨trivial, trivial⟩⟩⟩⟩) dr_ok (fun a => ⟨rfl, rfl⟩) (run n)
theorem all_ok (n : Nat) : EntOK Tryd.prog gl (ent n) := ok n ⟨W_slices_ContainsFunc_intint__design_Check_1.all_ok n, trivial⟩
end W_design_Check
namespace W_triple_open_1
noncomputable def body : Code := Tryd.f106.body.getD .skip
def keep : List (Nat × List Nat) := []
noncomputable def used (_n : Nat) : List Ent := []
noncomputable def env (n : Nat) : Env := envOf te gl (used n) ⟨2, 6⟩ [] keep
noncomputable def tab (ρ : Type) (_n : Nat) : Tab ρ := { live := [(0, [0]), (1, [2])], xl := [], rl := [2], fz := [], jp := [], lp := [] }
def enc (a : List Int) : List AV := [.ls (.ints .i64 a)]
def dec : List AV → Option (List Int)
  | [.ls (.ints .i64 b0)] => some b0
  | _ => none
def emb (b : Bool) : AV × List AV := (.pv (.bool b), [])
def dr : AV → List AV → Option (Bool)
  | .pv (.bool r0), [] => some r0
  | _, _ => none
theorem dec_ok (vs : List AV) (a : List Int) (h : dec vs = some a) : vs = enc a := by
  unfold dec at h
  split at h
  · cases h; rfl
  · cases h
theorem dr_ok (v : AV) (o : List AV) (b : Bool) (h : dr v o = some b) : emb b = (v, o) := by
  unfold dr at h
  split at h
  · cases h; rfl
  · cases h
noncomputable def ent (n : Nat) : Ent := { f := 106, ms := [.lend], α := List Int, β := Bool, dec := dec, enc := enc, emb := emb, m := fun a => Gm.triple_open_1 n a, hdec := dec_ok }
theorem run (n : Nat) (a : List Int) : AEO (env n) (answers (Bool) (used n) (used n)) (tab (Bool) n) body (frameOf (enc a) 0) (bodyO (env n) Tryd.f106.results.toList (enc a) dr) = (ent n).m a := by kernel_rfl
theorem ok (n : Nat) (hl : EntsOK Tryd.prog gl (used n)) : EntOK Tryd.prog gl (ent n) :=
  fnO_sound (P := Tryd.prog) (e := ent n) (fn := Tryd.f106) (body := body) (l := used n) (te := te) (gl := gl) (n := ⟨2, 6⟩) (cut := []) (keep := keep) (T := tab (Bool) n) (dr := dr) Tryd.func106 (by kernel_rfl) (by kernel_rfl) te_ok (by kernel_rfl) (by kernel_rfl) hl (show Cov _ (env n) (tab (Bool) n) body from ⟨trivial, ⟨trivial, trivial⟩⟩) dr_ok (fun a => ⟨rfl, rfl⟩) (run n)
theorem all_ok (n : Nat) : EntOK Tryd.prog gl (ent n) := ok n trivial
end W_triple_open_1
namespace W_slices_IndexFunc_intint__triple_open_1
noncomputable def body : Code := Tryd.f87.body.getD .skip
def keep : List (Nat × List Nat) := [(2, [0, 1, 7, 8])]
noncomputable def used (n : Nat) : List Ent := [W_triple_open_1.ent n]
noncomputable def env (n : Nat) : Env := envOf te gl (used n) ⟨4, 19⟩ [] keep
def F2 (c : (List (List Int)) × Int) (s : Int) : Fr := [(0, .ls (.rows c.1)), (1, .fn 106 []), (7, .pv (.int .i64 c.2)), (8, .pv (.int .i64 s))]
def d2 : Fr → Option (((List (List Int)) × Int) × (Int))
  | [(0, .ls (.rows s_0)), (1, .fn 106 []), (7, .pv (.int .i64 t7)), (8, .pv (.int .i64 t8))] => some ((s_0, t7), t8)
  | _ => none
def st2 {ρ : Type} (n : Nat) (c : (List (List Int)) × Int) (Ko : Exit → Fr → Option ρ) (s : Int) (nx : Int → Option ρ) : Option ρ :=
  Gm.slices_IndexFunc_intint__triple_open_1_s2 n c.1 c.2 s nx (fun (y0 : Int) => Ko .ret [(4, .pv (.int .i64 y0))]) (Ko (.exit 0) [])
noncomputable def tab (ρ : Type) (n : Nat) : Tab ρ := { live := [(0, [0, 1]), (1, [0, 1, 7, 8]), (2, [0, 1, 7, 8, 9]), (3, [0, 1, 5, 7, 8]), (4, [0, 1, 5, 7, 8, 16]), (5, [4]), (6, [0, 1, 7, 8]), (7, [4])], xl := [(0, []), (1, [0, 1, 7, 8])], rl := [4], fz := [], jp := [], lp := [(2, fun A Ko => bnd (d2 A) fun p => iterM (st2 n p.1 Ko) n p.2)] }
noncomputable def b2 : Code := (cL (cB (c2 (c1 (c2 body)))))
theorem d2_ok (A : Fr) (c : (List (List Int)) × Int) (s : Int) (h : d2 A = some (c, s)) : A = F2 c s := by
  unfold d2 at h
  split at h
  · cases h; rfl
  · cases h
theorem step2 (ρ : Type) (n : Nat) (c : (List (List Int)) × Int) (Ko : Exit → Fr → Option ρ) (s : Int) (nx : ((List (List Int)) × Int) → (Int) → Option ρ) :
    AEO (env n) (answers ρ (used n) (used n)) (tab ρ n) b2 (F2 c s) (thenO (fun A => bnd (d2 (restr (keepOf (env n) b2) A)) fun p => nx p.1 p.2) Ko) = st2 n c Ko s (nx c) := by kernel_rfl
theorem lp2_ok {ρ : Type} (n : Nat) (hl : EntsOK Tryd.prog gl (used n)) : ∀ (A : Fr) (Ko : Exit → Fr → Option ρ) (r : ρ) (K : Exit → Fr → Prop), (bnd (d2 (restr (keepOf (env n) b2) A)) fun p => iterM (st2 n p.1 Ko) n p.2) = some r → (∀ e A, Ko e A = some r → K e A) → Gx.Sem Tryd.prog (env n) (.loop b2) A K :=
  fun A Ko r K h hk => loop_cod (P := Tryd.prog) (E := env n) (T := tab ρ n) (fun _ _ _ h => answers_ok h) F2 d2 (st2 n) d2_ok (show Cov _ (env n) (tab ρ n) b2 from ⟨trivial, ⟨⟨trivial, trivial⟩, ⟨⟨trivial, ⟨trivial, ⟨⟨trivial, trivial⟩, trivial⟩⟩⟩, trivial⟩⟩⟩) (fun c Ko s nx => step2 ρ n c Ko s nx) n A Ko r K h hk
def enc (a : List (List Int)) : List AV := [.ls (.rows a), .fn 106 []]
def dec : List AV → Option (List (List Int))
  | [.ls (.rows s_0), .fn 106 []] => some s_0
  | _ => none
def emb (b : Int) : AV × List AV := (.pv (.int .i64 b), [])
def dr : AV → List AV → Option (Int)
  | .pv (.int .i64 r0), [] => some r0
  | _, _ => none
theorem dec_ok (vs : List AV) (a : List (List Int)) (h : dec vs = some a) : vs = enc a := by
  unfold dec at h
  split at h
  · cases h; rfl
  · cases h
theorem dr_ok (v : AV) (o : List AV) (b : Int) (h : dr v o = some b) : emb b = (v, o) := by
  unfold dr at h
  split at h
  · cases h; rfl
  · cases h
noncomputable def ent (n : Nat) : Ent := { f := 87, ms := [.lend, .lend], α := List (List Int), β := Int, dec := dec, enc := enc, emb := emb, m := fun a => Gm.slices_IndexFunc_intint__triple_open_1 n a, hdec := dec_ok }
theorem run (n : Nat) (a : List (List Int)) : AEO (env n) (answers (Int) (used n) (used n)) (tab (Int) n) body (frameOf (enc a) 0) (bodyO (env n) Tryd.f87.results.toList (enc a) dr) = (ent n).m a := by kernel_rfl
theorem ok (n : Nat) (hl : EntsOK Tryd.prog gl (used n)) : EntOK Tryd.prog gl (ent n) :=
  fnO_sound (P := Tryd.prog) (e := ent n) (fn := Tryd.f87) (body := body) (l := used n) (te := te) (gl := gl) (n := ⟨4, 19⟩) (cut := []) (keep := keep) (T := tab (Int) n) (dr := dr) Tryd.func87 (by kernel_rfl) (by kernel_rfl) te_ok (by kernel_rfl) (by kernel_rfl) hl (show Cov _ (env n) (tab (Int) n) body from ⟨trivial, ⟨⟨trivial, lp2_ok n hl⟩, ⟨trivial, trivial⟩⟩⟩) dr_ok (fun a => ⟨rfl, rfl⟩) (run n)
theorem all_ok (n : Nat) : EntOK Tryd.prog gl (ent n) := ok n ⟨W_triple_open_1.all_ok n, trivial⟩
end W_slices_IndexFunc_intint__triple_open_1
namespace W_slices_ContainsFunc_intint__triple_open_1
noncomputable def body : Code := Tryd.f41.body.getD .skip
def keep : List (Nat × List Nat) := []
noncomputable def used (n : Nat) : List Ent := [W_slices_IndexFunc_intint__triple_open_1.ent n]
noncomputable def env (n : Nat) : Env := envOf te gl (used n) ⟨4, 9⟩ [] keep
noncomputable def tab (ρ : Type) (_n : Nat) : Tab ρ := { live := [(0, [0, 1]), (1, [4])], xl := [], rl := [4], fz := [], jp := [], lp := [] }
def enc (a : List (List Int)) : List AV := [.ls (.rows a), .fn 106 []]
def dec : List AV → Option (List (List Int))
  | [.ls (.rows s_0), .fn 106 []] => some s_0
  | _ => none
def emb (b : Bool) : AV × List AV := (.pv (.bool b), [])
def dr : AV → List AV → Option (Bool)
  | .pv (.bool r0), [] => some r0
  | _, _ => none
theorem dec_ok (vs : List AV) (a : List (List Int)) (h : dec vs = some a) : vs = enc a := by
  unfold dec at h
  split at h
  · cases h; rfl
  · cases h
theorem dr_ok (v : AV) (o : List AV) (b : Bool) (h : dr v o = some b) : emb b = (v, o) := by
  unfold dr at h
  split at h
  · cases h; rfl
  · cases h
noncomputable def ent (n : Nat) : Ent := { f := 41, ms := [.lend, .lend], α := List (List Int), β := Bool, dec := dec, enc := enc, emb := emb, m := fun a => Gm.slices_ContainsFunc_intint__triple_open_1 n a, hdec := dec_ok }
theorem run (n : Nat) (a : List (List Int)) : AEO (env n) (answers (Bool) (used n) (used n)) (tab (Bool) n) body (frameOf (enc a) 0) (bodyO (env n) Tryd.f41.results.toList (enc a) dr) = (ent n).m a := by kernel_rfl
theorem ok (n : Nat) (hl : EntsOK Tryd.prog gl (used n)) : EntOK Tryd.prog gl (ent n) :=
  fnO_sound (P := Tryd.prog) (e := ent n) (fn := Tryd.f41) (body := body) (l := used n) (te := te) (gl := gl) (n := ⟨4, 9⟩) (cut := []) (keep := keep) (T := tab (Bool) n) (dr := dr) Tryd.func41 (by kernel_rfl) (by kernel_rfl) te_ok (by kernel_rfl) (by kernel_rfl) hl (show Cov _ (env n) (tab (Bool) n) body from ⟨trivial, ⟨trivial, trivial⟩⟩) dr_ok (fun a => ⟨rfl, rfl⟩) (run n)
theorem all_ok (n : Nat) : EntOK Tryd.prog gl (ent n) := ok n ⟨W_slices_IndexFunc_intint__triple_open_1.all_ok n, trivial⟩
end W_slices_ContainsFunc_intint__triple_open_1
namespace W_triple_third
noncomputable def body : Code := Tryd.f58.body.getD .skip
def keep : List (Nat × List Nat) := [(3, [0, 2, 4, 13]), (6, [0, 2, 4, 5, 13, 16]), (12, [2, 4, 25, 26, 27]), (15, [2, 4, 8, 25, 26, 27, 31, 32, 33])]
noncomputable def used (_n : Nat) : List Ent := []
noncomputable def env (n : Nat) : Env := envOf te gl (used n) ⟨2, 70⟩ [] keep
def F6 (c : (List (List Int)) × (List Int) × Int × Int) (s : (List Int) × Int) : Fr := [(0, .ls (.rows c.1)), (2, .ba (.ints .i64 c.2.1)), (4, .ba (.ints .i64 s.1)), (5, .pv (.int .i64 c.2.2.1)), (13, .pv (.int .i64 c.2.2.2)), (16, .pv (.int .i64 s.2))]
def d6 : Fr → Option (((List (List Int)) × (List Int) × Int × Int) × ((List Int) × Int))
  | [(0, .ls (.rows toArray0)), (2, .ba (.ints .i64 t2)), (4, .ba (.ints .i64 t4)), (5, .pv (.int .i64 t5)), (13, .pv (.int .i64 t13)), (16, .pv (.int .i64 t16))] => some ((toArray0, t2, t5, t13), (t4, t16))
  | _ => none
def st6 {ρ : Type} (n : Nat) (c : (List (List Int)) × (List Int) × Int × Int) (Ko : Exit → Fr → Option ρ) (s : (List Int) × Int) (nx : ((List Int) × Int) → Option ρ) : Option ρ :=
  Gm.triple_third_s6 n c.1 c.2.1 c.2.2.1 c.2.2.2 s.1 s.2 (fun a0 a1 => nx (a0, a1)) (fun (y0 : List Int) => Ko (.exit 2) [(0, .ls (.rows c.1)), (2, .ba (.ints .i64 c.2.1)), (4, .ba (.ints .i64 y0)), (13, .pv (.int .i64 c.2.2.2))])
def F3 (c : (List (List Int)) × (List Int)) (s : (List Int) × Int) : Fr := [(0, .ls (.rows c.1)), (2, .ba (.ints .i64 c.2)), (4, .ba (.ints .i64 s.1)), (13, .pv (.int .i64 s.2))]
def d3 : Fr → Option (((List (List Int)) × (List Int)) × ((List Int) × Int))
  | [(0, .ls (.rows toArray0)), (2, .ba (.ints .i64 t2)), (4, .ba (.ints .i64 t4)), (13, .pv (.int .i64 t13))] => some ((toArray0, t2), (t4, t13))
  | _ => none
def st3 {ρ : Type} (n : Nat) (c : (List (List Int)) × (List Int)) (Ko : Exit → Fr → Option ρ) (s : (List Int) × Int) (nx : ((List Int) × Int) → Option ρ) : Option ρ :=
  Gm.triple_third_s3 n c.1 c.2 s.1 s.2 (fun a0 a1 => nx (a0, a1)) (fun (y0 : List Int) => Ko (.exit 0) [(0, .ls (.rows c.1)), (2, .ba (.ints .i64 c.2)), (4, .ba (.ints .i64 y0))])
def F15 (c : (List Int) × (List Int) × (List (List Int)) × Int × Int × (List Int) × Int) (s : (List Int) × Int) : Fr := [(2, .ba (.ints .i64 c.1)), (4, .ba (.ints .i64 s.1)), (8, .sl (.ints .i64 c.2.1)), (25, .ls (.rows c.2.2.1)), (26, .pv (.int .i64 c.2.2.2.1)), (27, .pv (.int .i64 c.2.2.2.2.1)), (31, .sl (.ints .i64 c.2.2.2.2.2.1)), (32, .pv (.int .i64 c.2.2.2.2.2.2)), (33, .pv (.int .i64 s.2))]
def d15 : Fr → Option (((List Int) × (List Int) × (List (List Int)) × Int × Int × (List Int) × Int) × ((List Int) × Int))
  | [(2, .ba (.ints .i64 t2)), (4, .ba (.ints .i64 t4)), (8, .sl (.ints .i64 t8)), (25, .ls (.rows t25)), (26, .pv (.int .i64 t26)), (27, .pv (.int .i64 t27)), (31, .sl (.ints .i64 t31)), (32, .pv (.int .i64 t32)), (33, .pv (.int .i64 t33))] => some ((t2, t8, t25, t26, t27, t31, t32), (t4, t33))
  | _ => none
def st15 {ρ : Type} (n : Nat) (c : (List Int) × (List Int) × (List (List Int)) × Int × Int × (List Int) × Int) (Ko : Exit → Fr → Option ρ) (s : (List Int) × Int) (nx : ((List Int) × Int) → Option ρ) : Option ρ :=
  Gm.triple_third_s15 n c.1 c.2.1 c.2.2.1 c.2.2.2.1 c.2.2.2.2.1 c.2.2.2.2.2.1 c.2.2.2.2.2.2 s.1 s.2 (fun a0 a1 => nx (a0, a1)) (fun (y0 : List Int) => Ko .ret [(3, .pv (.bool false)), (2, .ba (.ints .i64 y0))]) (fun (y0 : List Int) => Ko (.exit 6) [(2, .ba (.ints .i64 c.1)), (4, .ba (.ints .i64 y0)), (25, .ls (.rows c.2.2.1)), (26, .pv (.int .i64 c.2.2.2.1)), (27, .pv (.int .i64 c.2.2.2.2.1))])
def F12 (c : (List Int) × (List (List Int)) × Int) (s : (List Int) × Int) : Fr := [(2, .ba (.ints .i64 c.1)), (4, .ba (.ints .i64 s.1)), (25, .ls (.rows c.2.1)), (26, .pv (.int .i64 c.2.2)), (27, .pv (.int .i64 s.2))]
def d12 : Fr → Option (((List Int) × (List (List Int)) × Int) × ((List Int) × Int))
  | [(2, .ba (.ints .i64 t2)), (4, .ba (.ints .i64 t4)), (25, .ls (.rows t25)), (26, .pv (.int .i64 t26)), (27, .pv (.int .i64 t27))] => some ((t2, t25, t26), (t4, t27))
  | _ => none
def st12 {ρ : Type} (n : Nat) (c : (List Int) × (List (List Int)) × Int) (Ko : Exit → Fr → Option ρ) (s : (List Int) × Int) (nx : ((List Int) × Int) → Option ρ) : Option ρ :=
  Gm.triple_third_s12 n c.1 c.2.1 c.2.2 s.1 s.2 (fun a0 a1 => nx (a0, a1)) (fun (y0 : List Int) => Ko .ret [(3, .pv (.bool false)), (2, .ba (.ints .i64 y0))]) (fun (y0 : List Int) => Ko (.exit 4) [(2, .ba (.ints .i64 c.1)), (4, .ba (.ints .i64 y0))])
noncomputable def tab (ρ : Type) (n : Nat) : Tab ρ := { live := [(0, [0, 2]), (1, [0, 2, 4]), (2, [0, 2, 4, 13]), (3, [0, 2, 4, 13, 14]), (4, [0, 2, 4, 5, 13]), (5, [0, 2, 4, 5, 13, 16]), (6, [0, 2, 4, 5, 13, 16, 17]), (7, [0, 2, 4, 5, 6, 13, 16]), (8, [0, 2, 4, 5, 13, 16]), (9, [0, 2, 4, 5, 13, 16]), (10, [0, 2, 4, 13]), (11, [2, 4, 25, 26, 27]), (12, [2, 4, 25, 26, 27, 28]), (13, [2, 4, 8, 25, 26, 27]), (14, [2, 4, 8, 25, 26, 27, 31, 32, 33]), (15, [2, 4, 8, 25, 26, 27, 31, 32, 33, 34]), (16, [2, 4, 8, 9, 10, 25, 26, 27, 31, 32, 33]), (17, [2, 4, 8, 10, 11, 12, 25, 26, 27, 31, 32, 33]), (18, [2, 4, 8, 10, 11, 12, 25, 26, 27, 31, 32, 33, 55]), (19, [2, 3]), (20, [2, 4, 8, 25, 26, 27, 31, 32, 33]), (21, [2, 4, 8, 25, 26, 27, 31, 32, 33]), (22, [2, 4, 25, 26, 27]), (23, [2, 3])], xl := [(0, [0, 2, 4]), (1, [0, 2, 4, 13]), (2, [0, 2, 4, 13]), (3, [0, 2, 4, 5, 13, 16]), (4, [2, 4]), (5, [2, 4, 25, 26, 27]), (6, [2, 4, 25, 26, 27]), (7, [2, 4, 8, 25, 26, 27, 31, 32, 33])], rl := [2, 3], fz := [], jp := [], lp := [(6, fun A Ko => bnd (d6 A) fun p => iterM (st6 n p.1 Ko) n p.2), (3, fun A Ko => bnd (d3 A) fun p => iterM (st3 n p.1 Ko) n p.2), (15, fun A Ko => bnd (d15 A) fun p => iterM (st15 n p.1 Ko) n p.2), (12, fun A Ko => bnd (d12 A) fun p => iterM (st12 n p.1 Ko) n p.2)] }
noncomputable def b6 : Code := (cL (cB (c2 (c2 (cB (c1 (c2 (c2 (cL (cB (c2 (c1 (c2 (c2 body))))))))))))))
theorem d6_ok (A : Fr) (c : (List (List Int)) × (List Int) × Int × Int) (s : (List Int) × Int) (h : d6 A = some (c, s)) : A = F6 c s := by
  unfold d6 at h
  split at h
  · cases h; rfl
  · cases h
theorem step6 (ρ : Type) (n : Nat) (c : (List (List Int)) × (List Int) × Int × Int) (Ko : Exit → Fr → Option ρ) (s : (List Int) × Int) (nx : ((List (List Int)) × (List Int) × Int × Int) → ((List Int) × Int) → Option ρ) :
    AEO (env n) (answers ρ (used n) (used n)) (tab ρ n) b6 (F6 c s) (thenO (fun A => bnd (d6 (restr (keepOf (env n) b6) A)) fun p => nx p.1 p.2) Ko) = st6 n c Ko s (nx c) := by kernel_rfl
theorem lp6_ok {ρ : Type} (n : Nat) (hl : EntsOK Tryd.prog gl (used n)) : ∀ (A : Fr) (Ko : Exit → Fr → Option ρ) (r : ρ) (K : Exit → Fr → Prop), (bnd (d6 (restr (keepOf (env n) b6) A)) fun p => iterM (st6 n p.1 Ko) n p.2) = some r → (∀ e A, Ko e A = some r → K e A) → Gx.Sem Tryd.prog (env n) (.loop b6) A K :=
  fun A Ko r K h hk => loop_cod (P := Tryd.prog) (E := env n) (T := tab ρ n) (fun _ _ _ h => answers_ok h) F6 d6 (st6 n) d6_ok (show Cov _ (env n) (tab ρ n) b6 from ⟨trivial, ⟨⟨trivial, trivial⟩, ⟨⟨trivial, trivial⟩, trivial⟩⟩⟩) (fun c Ko s nx => step6 ρ n c Ko s nx) n A Ko r K h hk
noncomputable def b3 : Code := (cL (cB (c2 (c1 (c2 (c2 body))))))
theorem d3_ok (A : Fr) (c : (List (List Int)) × (List Int)) (s : (List Int) × Int) (h : d3 A = some (c, s)) : A = F3 c s := by
  unfold d3 at h
  split at h
  · cases h; rfl
  · cases h
theorem step3 (ρ : Type) (n : Nat) (c : (List (List Int)) × (List Int)) (Ko : Exit → Fr → Option ρ) (s : (List Int) × Int) (nx : ((List (List Int)) × (List Int)) → ((List Int) × Int) → Option ρ) :
    AEO (env n) (answers ρ (used n) (used n)) (tab ρ n) b3 (F3 c s) (thenO (fun A => bnd (d3 (restr (keepOf (env n) b3) A)) fun p => nx p.1 p.2) Ko) = st3 n c Ko s (nx c) := by kernel_rfl
theorem lp3_ok {ρ : Type} (n : Nat) (hl : EntsOK Tryd.prog gl (used n)) : ∀ (A : Fr) (Ko : Exit → Fr → Option ρ) (r : ρ) (K : Exit → Fr → Prop), (bnd (d3 (restr (keepOf (env n) b3) A)) fun p => iterM (st3 n p.1 Ko) n p.2) = some r → (∀ e A, Ko e A = some r → K e A) → Gx.Sem Tryd.prog (env n) (.loop b3) A K :=
  fun A Ko r K h hk => loop_cod (P := Tryd.prog) (E := env n) (T := tab ρ n) (fun _ _ _ h => answers_ok h) F3 d3 (st3 n) d3_ok (show Cov _ (env n) (tab ρ n) b3 from ⟨trivial, ⟨⟨trivial, trivial⟩, ⟨⟨trivial, ⟨trivial, lp6_ok n hl⟩⟩, trivial⟩⟩⟩) (fun c Ko s nx => step3 ρ n c Ko s nx) n A Ko r K h hk
noncomputable def b15 : Code := (cL (cB (c2 (c2 (cB (c1 (c2 (c2 (cL (cB (c2 (c1 (c2 (c2 (c2 body)))))))))))))))
theorem d15_ok (A : Fr) (c : (List Int) × (List Int) × (List (List Int)) × Int × Int × (List Int) × Int) (s : (List Int) × Int) (h : d15 A = some (c, s)) : A = F15 c s := by
  unfold d15 at h
  split at h
  · cases h; rfl
  · cases h
theorem step15 (ρ : Type) (n : Nat) (c : (List Int) × (List Int) × (List (List Int)) × Int × Int × (List Int) × Int) (Ko : Exit → Fr → Option ρ) (s : (List Int) × Int) (nx : ((List Int) × (List Int) × (List (List Int)) × Int × Int × (List Int) × Int) → ((List Int) × Int) → Option ρ) :
    AEO (env n) (answers ρ (used n) (used n)) (tab ρ n) b15 (F15 c s) (thenO (fun A => bnd (d15 (restr (keepOf (env n) b15) A)) fun p => nx p.1 p.2) Ko) = st15 n c Ko s (nx c) := by kernel_rfl
theorem lp15_ok {ρ : Type} (n : Nat) (hl : EntsOK Tryd.prog gl (used n)) : ∀ (A : Fr) (Ko : Exit → Fr → Option ρ) (r : ρ) (K : Exit → Fr → Prop), (bnd (d15 (restr (keepOf (env n) b15) A)) fun p => iterM (st15 n p.1 Ko) n p.2) = some r → (∀ e A, Ko e A = some r → K e A) → Gx.Sem Tryd.prog (env n) (.loop b15) A K :=
  fun A Ko r K h hk => loop_cod (P := Tryd.prog) (E := env n) (T := tab ρ n) (fun _ _ _ h => answers_ok h) F15 d15 (st15 n) d15_ok (show Cov _ (env n) (tab ρ n) b15 from ⟨trivial, ⟨⟨trivial, trivial⟩, ⟨⟨trivial, ⟨trivial, ⟨⟨trivial, ⟨⟨trivial, trivial⟩, trivial⟩⟩, trivial⟩⟩⟩, trivial⟩⟩⟩) (fun c Ko s nx => step15 ρ n c Ko s nx) n A Ko r K h hk
noncomputable def b12 : Code := (cL (cB (c2 (c1 (c2 (c2 (c2 body)))))))
theorem d12_ok (A : Fr) (c : (List Int) × (List (List Int)) × Int) (s : (List Int) × Int) (h : d12 A = some (c, s)) : A = F12 c s := by
  unfold d12 at h
  split at h
  · cases h; rfl
  · cases h
theorem step12 (ρ : Type) (n : Nat) (c : (List Int) × (List (List Int)) × Int) (Ko : Exit → Fr → Option ρ) (s : (List Int) × Int) (nx : ((List Int) × (List (List Int)) × Int) → ((List Int) × Int) → Option ρ) :
    AEO (env n) (answers ρ (used n) (used n)) (tab ρ n) b12 (F12 c s) (thenO (fun A => bnd (d12 (restr (keepOf (env n) b12) A)) fun p => nx p.1 p.2) Ko) = st12 n c Ko s (nx c) := by kernel_rfl
theorem lp12_ok {ρ : Type} (n : Nat) (hl : EntsOK Tryd.prog gl (used n)) : ∀ (A : Fr) (Ko : Exit → Fr → Option ρ) (r : ρ) (K : Exit → Fr → Prop), (bnd (d12 (restr (keepOf (env n) b12) A)) fun p => iterM (st12 n p.1 Ko) n p.2) = some r → (∀ e A, Ko e A = some r → K e A) → Gx.Sem Tryd.prog (env n) (.loop b12) A K :=
  fun A Ko r K h hk => loop_cod (P := Tryd.prog) (E := env n) (T := tab ρ n) (fun _ _ _ h => answers_ok h) F12 d12 (st12 n) d12_ok (show Cov _ (env n) (tab ρ n) b12 from ⟨trivial, ⟨⟨trivial, trivial⟩, ⟨⟨trivial, ⟨trivial, lp15_ok n hl⟩⟩, trivial⟩⟩⟩) (fun c Ko s nx => step12 ρ n c Ko s nx) n A Ko r K h hk
def enc (a : List (List Int)) : List AV := [.ls (.rows a)]
def dec : List AV → Option (List (List Int))
  | [.ls (.rows toArray0)] => some toArray0
  | _ => none
def emb (b : (List Int) × Bool) : AV × List AV := (.tp [.aa (.ints .i64 b.1), .pv (.bool b.2)], [])
def dr : AV → List AV → Option ((List Int) × Bool)
  | .tp [.aa (.ints .i64 r0), .pv (.bool r1)], [] => some (r0, r1)
  | _, _ => none
theorem dec_ok (vs : List AV) (a : List (List Int)) (h : dec vs = some a) : vs = enc a := by
  unfold dec at h
  split at h
  · cases h; rfl
  · cases h
theorem dr_ok (v : AV) (o : List AV) (b : (List Int) × Bool) (h : dr v o = some b) : emb b = (v, o) := by
  unfold dr at h
  split at h
  · cases h; rfl
  · cases h
noncomputable def ent (n : Nat) : Ent := { f := 58, ms := [.lend], α := List (List Int), β := (List Int) × Bool, dec := dec, enc := enc, emb := emb, m := fun a => Gm.triple_third n a, hdec := dec_ok }
theorem run (n : Nat) (a : List (List Int)) : AEO (env n) (answers ((List Int) × Bool) (used n) (used n)) (tab ((List Int) × Bool) n) body (frameOf (enc a) 0) (bodyO (env n) Tryd.f58.results.toList (enc a) dr) = (ent n).m a := by kernel_rfl
theorem ok (n : Nat) (hl : EntsOK Tryd.prog gl (used n)) : EntOK Tryd.prog gl (ent n) :=
  fnO_sound (P := Tryd.prog) (e := ent n) (fn := Tryd.f58) (body := body) (l := used n) (te := te) (gl := gl) (n := ⟨2, 70⟩) (cut := []) (keep := keep) (T := tab ((List Int) × Bool) n) (dr := dr) Tryd.func58 (by kernel_rfl) (by kernel_rfl) te_ok (by kernel_rfl) (by kernel_rfl) hl (show Cov _ (env n) (tab ((List Int) × Bool) n) body from ⟨trivial, ⟨trivial, ⟨⟨trivial, lp3_ok n hl⟩, ⟨⟨trivial, lp12_ok n hl⟩, ⟨trivial, trivial⟩⟩⟩⟩⟩) dr_ok (fun a => ⟨rfl, rfl⟩) (run n)
theorem all_ok (n : Nat) : EntOK Tryd.prog gl (ent n) := ok n trivial
end W_triple_third
namespace W_triple_open
noncomputable def body : Code := Tryd.f72.body.getD .skip
def keep : List (Nat × List Nat) := []
noncomputable def used (n : Nat) : List Ent := [W_design_Check.ent n, W_slices_ContainsFunc_intint__triple_open_1.ent n, W_triple_third.ent n]
noncomputable def env (n : Nat) : Env := envOf te gl (used n) ⟨1, 40⟩ [] keep
noncomputable def tab (ρ : Type) (_n : Nat) : Tab ρ := { live := [(0, [1, 2]), (1, [1, 2, 4]), (2, [1, 2, 4, 10]), (3, [2, 3]), (4, [1, 2, 15]), (5, [2, 3]), (6, [1, 2, 5, 6]), (7, [2, 5, 37]), (8, [2, 3]), (9, [2, 3])], xl := [], rl := [2, 3], fz := [], jp := [], lp := [] }
def enc (a : Int × (List (List Int))) : List AV := [.ag [.pv (.int .i64 a.1), .ls (.rows a.2)]]
def dec : List AV → Option (Int × (List (List Int)))
  | [.ag [.pv (.int .i64 d0_0), .ls (.rows d0_1)]] => some (d0_0, d0_1)
  | _ => none
def emb (b : (List Int) × Int) : AV × List AV := (.tp [.aa (.ints .i64 b.1), .pv (.int .i64 b.2)], [])
def dr : AV → List AV → Option ((List Int) × Int)
  | .tp [.aa (.ints .i64 r0), .pv (.int .i64 r1)], [] => some (r0, r1)
  | _, _ => none
theorem dec_ok (vs : List AV) (a : Int × (List (List Int))) (h : dec vs = some a) : vs = enc a := by
  unfold dec at h
  split at h
  · cases h; rfl
  · cases h
theorem dr_ok (v : AV) (o : List AV) (b : (List Int) × Int) (h : dr v o = some b) : emb b = (v, o) := by
  unfold dr at h
  split at h
  · cases h; rfl
  · cases h
noncomputable def ent (n : Nat) : Ent := { f := 72, ms := [.lend], α := Int × (List (List Int)), β := (List Int) × Int, dec := dec, enc := enc, emb := emb, m := fun a => Gm.triple_open n a.1 a.2, hdec := dec_ok }
theorem run (n : Nat) (a : Int × (List (List Int))) : AEO (env n) (answers ((List Int) × Int) (used n) (used n)) (tab ((List Int) × Int) n) body (frameOf (enc a) 0) (bodyO (env n) Tryd.f72.results.toList (enc a) dr) = (ent n).m a := by kernel_rfl
theorem ok (n : Nat) (hl : EntsOK Tryd.prog gl (used n)) : EntOK Tryd.prog gl (ent n) :=
  fnO_sound (P := Tryd.prog) (e := ent n) (fn := Tryd.f72) (body := body) (l := used n) (te := te) (gl := gl) (n := ⟨1, 40⟩) (cut := []) (keep := keep) (T := tab ((List Int) × Int) n) (dr := dr) Tryd.func72 (by kernel_rfl) (by kernel_rfl) te_ok (by kernel_rfl) (by kernel_rfl) hl (show Cov _ (env n) (tab ((List Int) × Int) n) body from ⟨trivial, ⟨⟨trivial, ⟨trivial, ⟨⟨trivial, trivial⟩, trivial⟩⟩⟩, ⟨⟨trivial, ⟨⟨trivial, trivial⟩, trivial⟩⟩, ⟨trivial, ⟨⟨trivial, ⟨⟨trivial, trivial⟩, trivial⟩⟩, ⟨trivial, trivial⟩⟩⟩⟩⟩⟩) dr_ok (fun a => ⟨rfl, rfl⟩) (run n)
theorem all_ok (n : Nat) : EntOK Tryd.prog gl (ent n) := ok n ⟨W_design_Check.all_ok n, W_slices_ContainsFunc_intint__triple_open_1.all_ok n, W_triple_third.all_ok n, trivial⟩
end W_triple_open
namespace W_triple_Check
noncomputable def body : Code := Tryd.f26.body.getD .skip
def keep : List (Nat × List Nat) := []
noncomputable def used (n : Nat) : List Ent := [W_triple_open.ent n]
noncomputable def env (n : Nat) : Env := envOf te gl (used n) ⟨1, 11⟩ [] keep
noncomputable def tab (ρ : Type) (_n : Nat) : Tab ρ := { live := [(0, [1]), (1, [4]), (2, [2])], xl := [], rl := [2], fz := [], jp := [], lp := [] }
def enc (a : Int × (List (List Int))) : List AV := [.ag [.pv (.int .i64 a.1), .ls (.rows a.2)]]
def dec : List AV → Option (Int × (List (List Int)))
  | [.ag [.pv (.int .i64 d0_0), .ls (.rows d0_1)]] => some (d0_0, d0_1)
  | _ => none
def emb (b : Int) : AV × List AV := (.pv (.int .i64 b), [])
def dr : AV → List AV → Option (Int)
  | .pv (.int .i64 r0), [] => some r0
  | _, _ => none
theorem dec_ok (vs : List AV) (a : Int × (List (List Int))) (h : dec vs = some a) : vs = enc a := by
  unfold dec at h
  split at h
  · cases h; rfl
  · cases h
theorem dr_ok (v : AV) (o : List AV) (b : Int) (h : dr v o = some b) : emb b = (v, o) := by
  unfold dr at h
  split at h
  · cases h; rfl
  · cases h
noncomputable def ent (n : Nat) : Ent := { f := 26, ms := [.lend], α := Int × (List (List Int)), β := Int, dec := dec, enc := enc, emb := emb, m := fun a => Gm.triple_Check n a.1 a.2, hdec := dec_ok }
theorem run (n : Nat) (a : Int × (List (List Int))) : AEO (env n) (answers (Int) (used n) (used n)) (tab (Int) n) body (frameOf (enc a) 0) (bodyO (env n) Tryd.f26.results.toList (enc a) dr) = (ent n).m a := by kernel_rfl
theorem ok (n : Nat) (hl : EntsOK Tryd.prog gl (used n)) : EntOK Tryd.prog gl (ent n) :=
  fnO_sound (P := Tryd.prog) (e := ent n) (fn := Tryd.f26) (body := body) (l := used n) (te := te) (gl := gl) (n := ⟨1, 11⟩) (cut := []) (keep := keep) (T := tab (Int) n) (dr := dr) Tryd.func26 (by kernel_rfl) (by kernel_rfl) te_ok (by kernel_rfl) (by kernel_rfl) hl (show Cov _ (env n) (tab (Int) n) body from ⟨trivial, ⟨trivial, ⟨trivial, trivial⟩⟩⟩) dr_ok (fun a => ⟨rfl, rfl⟩) (run n)
theorem all_ok (n : Nat) : EntOK Tryd.prog gl (ent n) := ok n ⟨W_triple_open.all_ok n, trivial⟩
end W_triple_Check
namespace W_slices_Sort
def ent (_n : Nat) : Ent := sortIE 85 3
theorem all_ok (n : Nat) : EntOK Tryd.prog gl (ent n) := sortI_ok (by kernel_rfl) (fun blk off cap zs w h1 h2 h3 => Tryd.slices_Sort_int blk off cap zs w h1 h2 h3) (fun p cap w => Any.slices_Sort_int_none Tryd.lays189 p cap w)
end W_slices_Sort
namespace W_triple_lister_add
noncomputable def body : Code := Tryd.f57.body.getD .skip
def keep : List (Nat × List Nat) := []
noncomputable def used (n : Nat) : List Ent := [W_slices_Sort.ent n]
noncomputable def env (n : Nat) : Env := envOf te gl (used n) ⟨8, 25⟩ [] keep
noncomputable def tab (ρ : Type) (_n : Nat) : Tab ρ := { live := [(0, [0, 8]), (1, [0, 8]), (2, [0])], xl := [], rl := [0], fz := [], jp := [], lp := [] }
def enc (a : (List (List Int)) × Int × Int × Int × Int) : List AV := [.bx [.ow 22 (.rows a.1), .pv (.int .i64 a.2.1)], .pv (.int .i64 a.2.2.1), .pv (.int .i64 a.2.2.2.1), .pv (.int .i64 a.2.2.2.2)]
def dec : List AV → Option ((List (List Int)) × Int × Int × Int × Int)
  | [.bx [.ow 22 (.rows l0_0), .pv (.int .i64 l0_1)], .pv (.int .i64 a1), .pv (.int .i64 b2), .pv (.int .i64 c_3)] => some (l0_0, l0_1, a1, b2, c_3)
  | _ => none
def emb (b : (List (List Int)) × Int) : AV × List AV := (.tp [], [.bx [.ow 22 (.rows b.1), .pv (.int .i64 b.2)]])
def dr : AV → List AV → Option ((List (List Int)) × Int)
  | .tp [], [.bx [.ow 22 (.rows r0), .pv (.int .i64 r1)]] => some (r0, r1)
  | _, _ => none
theorem dec_ok (vs : List AV) (a : (List (List Int)) × Int × Int × Int × Int) (h : dec vs = some a) : vs = enc a := by
  unfold dec at h
  split at h
  · cases h; rfl
  · cases h
theorem dr_ok (v : AV) (o : List AV) (b : (List (List Int)) × Int) (h : dr v o = some b) : emb b = (v, o) := by
  unfold dr at h
  split at h
  · cases h; rfl
  · cases h
noncomputable def ent (n : Nat) : Ent := { f := 57, ms := [.io, .lend, .lend, .lend], α := (List (List Int)) × Int × Int × Int × Int, β := (List (List Int)) × Int, dec := dec, enc := enc, emb := emb, m := fun a => Gm.triple_lister_add n a.1 a.2.1 a.2.2.1 a.2.2.2.1 a.2.2.2.2, hdec := dec_ok }
theorem run (n : Nat) (a : (List (List Int)) × Int × Int × Int × Int) : AEO (env n) (answers ((List (List Int)) × Int) (used n) (used n)) (tab ((List (List Int)) × Int) n) body (frameOf (enc a) 0) (bodyO (env n) Tryd.f57.results.toList (enc a) dr) = (ent n).m a := by kernel_rfl
theorem ok (n : Nat) (hl : EntsOK Tryd.prog gl (used n)) : EntOK Tryd.prog gl (ent n) :=
  fnO_sound (P := Tryd.prog) (e := ent n) (fn := Tryd.f57) (body := body) (l := used n) (te := te) (gl := gl) (n := ⟨8, 25⟩) (cut := []) (keep := keep) (T := tab ((List (List Int)) × Int) n) (dr := dr) Tryd.func57 (by kernel_rfl) (by kernel_rfl) te_ok (by kernel_rfl) (by kernel_rfl) hl (show Cov _ (env n) (tab ((List (List Int)) × Int) n) body from ⟨trivial, ⟨trivial, trivial⟩⟩) dr_ok (fun a => ⟨rfl, rfl⟩) (run n)
theorem all_ok (n : Nat) : EntOK Tryd.prog gl (ent n) := ok n ⟨W_slices_Sort.all_ok n, trivial⟩
end W_triple_lister_add
namespace W_cmp_isNaN_int
noncomputable def body : Code := Tryd.f143.body.getD .skip
def keep : List (Nat × List Nat) := []
noncomputable def used (_n : Nat) : List Ent := []
noncomputable def env (n : Nat) : Env := envOf te gl (used n) ⟨2, 6⟩ [] keep
noncomputable def tab (ρ : Type) (_n : Nat) : Tab ρ := { live := [(0, [0]), (1, [2])], xl := [], rl := [2], fz := [], jp := [], lp := [] }
def enc (a : Int) : List AV := [.pv (.int .i64 a)]
def dec : List AV → Option (Int)
  | [.pv (.int .i64 x0)] => some x0
  | _ => none
def emb (b : Bool) : AV × List AV := (.pv (.bool b), [])
def dr : AV → List AV → Option (Bool)
  | .pv (.bool r0), [] => some r0
  | _, _ => none
theorem dec_ok (vs : List AV) (a : Int) (h : dec vs = some a) : vs = enc a := by
  unfold dec at h
  split at h
  · cases h; rfl
  · cases h
theorem dr_ok (v : AV) (o : List AV) (b : Bool) (h : dr v o = some b) : emb b = (v, o) := by
  unfold dr at h
  split at h
  · cases h; rfl
  · cases h
noncomputable def ent (n : Nat) : Ent := { f := 143, ms := [.lend], α := Int, β := Bool, dec := dec, enc := enc, emb := emb, m := fun a => Gm.cmp_isNaN_int n a, hdec := dec_ok }
theorem run (n : Nat) (a : Int) : AEO (env n) (answers (Bool) (used n) (used n)) (tab (Bool) n) body (frameOf (enc a) 0) (bodyO (env n) Tryd.f143.results.toList (enc a) dr) = (ent n).m a := by kernel_rfl
theorem ok (n : Nat) (hl : EntsOK Tryd.prog gl (used n)) : EntOK Tryd.prog gl (ent n) :=
  fnO_sound (P := Tryd.prog) (e := ent n) (fn := Tryd.f143) (body := body) (l := used n) (te := te) (gl := gl) (n := ⟨2, 6⟩) (cut := []) (keep := keep) (T := tab (Bool) n) (dr := dr) Tryd.func143 (by kernel_rfl) (by kernel_rfl) te_ok (by kernel_rfl) (by kernel_rfl) hl (show Cov _ (env n) (tab (Bool) n) body from ⟨trivial, ⟨trivial, trivial⟩⟩) dr_ok (fun a => ⟨rfl, rfl⟩) (run n)
theorem all_ok (n : Nat) : EntOK Tryd.prog gl (ent n) := ok n trivial
end W_cmp_isNaN_int
namespace W_cmp_Compare_int
noncomputable def body : Code := Tryd.f122.body.getD .skip
def keep : List (Nat × List Nat) := []
noncomputable def used (n : Nat) : List Ent := [W_cmp_isNaN_int.ent n]
noncomputable def env (n : Nat) : Env := envOf te gl (used n) ⟨4, 20⟩ [] keep
noncomputable def tab (ρ : Type) (_n : Nat) : Tab ρ := { live := [(0, [0, 1]), (1, [0, 1, 5]), (2, [0, 1, 5, 6]), (3, [0, 1, 6, 11]), (4, [12]), (5, [4]), (6, [4]), (7, [0, 1, 13]), (8, [4]), (9, [0, 1, 16]), (10, [4]), (11, [19]), (12, [4]), (13, [4])], xl := [], rl := [4], fz := [], jp := [], lp := [] }
def enc (a : Int × Int) : List AV := [.pv (.int .i64 a.1), .pv (.int .i64 a.2)]
def dec : List AV → Option (Int × Int)
  | [.pv (.int .i64 x0), .pv (.int .i64 y1)] => some (x0, y1)
  | _ => none
def emb (b : Int) : AV × List AV := (.pv (.int .i64 b), [])
def dr : AV → List AV → Option (Int)
  | .pv (.int .i64 r0), [] => some r0
  | _, _ => none
theorem dec_ok (vs : List AV) (a : Int × Int) (h : dec vs = some a) : vs = enc a := by
  unfold dec at h
  split at h
  · cases h; rfl
  · cases h
theorem dr_ok (v : AV) (o : List AV) (b : Int) (h : dr v o = some b) : emb b = (v, o) := by
  unfold dr at h
  split at h
  · cases h; rfl
  · cases h
noncomputable def ent (n : Nat) : Ent := { f := 122, ms := [.lend, .lend], α := Int × Int, β := Int, dec := dec, enc := enc, emb := emb, m := fun a => Gm.cmp_Compare_int n a.1 a.2, hdec := dec_ok }
theorem run (n : Nat) (a : Int × Int) : AEO (env n) (answers (Int) (used n) (used n)) (tab (Int) n) body (frameOf (enc a) 0) (bodyO (env n) Tryd.f122.results.toList (enc a) dr) = (ent n).m a := by kernel_rfl
theorem ok (n : Nat) (hl : EntsOK Tryd.prog gl (used n)) : EntOK Tryd.prog gl (ent n) :=
  fnO_sound (P := Tryd.prog) (e := ent n) (fn := Tryd.f122) (body := body) (l := used n) (te := te) (gl := gl) (n := ⟨4, 20⟩) (cut := []) (keep := keep) (T := tab (Int) n) (dr := dr) Tryd.func122 (by kernel_rfl) (by kernel_rfl) te_ok (by kernel_rfl) (by kernel_rfl) hl (show Cov _ (env n) (tab (Int) n) body from ⟨trivial, ⟨trivial, ⟨trivial, ⟨⟨trivial, ⟨⟨⟨trivial, ⟨⟨trivial, trivial⟩, trivial⟩⟩, ⟨trivial, trivial⟩⟩, trivial⟩⟩, ⟨⟨trivial, ⟨⟨trivial, trivial⟩, trivial⟩⟩, ⟨⟨trivial, ⟨⟨trivial, trivial⟩, trivial⟩⟩, ⟨⟨trivial, ⟨⟨trivial, trivial⟩, trivial⟩⟩, ⟨trivial, trivial⟩⟩⟩⟩⟩⟩⟩⟩) dr_ok (fun a => ⟨rfl, rfl⟩) (run n)
theorem all_ok (n : Nat) : EntOK Tryd.prog gl (ent n) := ok n ⟨W_cmp_isNaN_int.all_ok n, trivial⟩
end W_cmp_Compare_int
namespace W_slices_Compare_intint
noncomputable def body : Code := Tryd.f104.body.getD .skip
def keep : List (Nat × List Nat) := [(2, [0, 1, 9, 10, 11])]
noncomputable def used (n : Nat) : List Ent := [W_cmp_Compare_int.ent n]
noncomputable def env (n : Nat) : Env := envOf te gl (used n) ⟨4, 36⟩ [] keep
def F2 (c : (List Int) × (List Int) × (List Int) × Int) (s : Int) : Fr := [(0, .ls (.ints .i64 c.1)), (1, .ls (.ints .i64 c.2.1)), (9, .ls (.ints .i64 c.2.2.1)), (10, .pv (.int .i64 c.2.2.2)), (11, .pv (.int .i64 s))]
def d2 : Fr → Option (((List Int) × (List Int) × (List Int) × Int) × (Int))
  | [(0, .ls (.ints .i64 s10)), (1, .ls (.ints .i64 s21)), (9, .ls (.ints .i64 t9)), (10, .pv (.int .i64 t10)), (11, .pv (.int .i64 t11))] => some ((s10, s21, t9, t10), t11)
  | _ => none
def st2 {ρ : Type} (n : Nat) (c : (List Int) × (List Int) × (List Int) × Int) (Ko : Exit → Fr → Option ρ) (s : Int) (nx : Int → Option ρ) : Option ρ :=
  Gm.slices_Compare_intint_s2 n c.1 c.2.1 c.2.2.1 c.2.2.2 s nx (Ko .ret [(4, .pv (.int .i64 1))]) (fun (y0 : Int) => Ko .ret [(4, .pv (.int .i64 y0))]) (Ko (.exit 0) [(0, .ls (.ints .i64 c.1)), (1, .ls (.ints .i64 c.2.1))])
noncomputable def tab (ρ : Type) (n : Nat) : Tab ρ := { live := [(0, [0, 1]), (1, [0, 1, 9, 10, 11]), (2, [0, 1, 9, 10, 11, 12]), (3, [0, 1, 5, 6, 9, 10, 11]), (4, [0, 1, 5, 6, 9, 10, 11, 19]), (5, [4]), (6, [0, 1, 6, 7, 9, 10, 11]), (7, [0, 1, 8, 9, 10, 11]), (8, [0, 1, 8, 9, 10, 11, 28]), (9, [4]), (10, [0, 1, 9, 10, 11]), (11, [35]), (12, [4]), (13, [4])], xl := [(0, [0, 1]), (1, [0, 1, 9, 10, 11])], rl := [4], fz := [], jp := [], lp := [(2, fun A Ko => bnd (d2 A) fun p => iterM (st2 n p.1 Ko) n p.2)] }
noncomputable def b2 : Code := (cL (cB (c2 (c1 (c2 body)))))
theorem d2_ok (A : Fr) (c : (List Int) × (List Int) × (List Int) × Int) (s : Int) (h : d2 A = some (c, s)) : A = F2 c s := by
  unfold d2 at h
  split at h
  · cases h; rfl
  · cases h
theorem step2 (ρ : Type) (n : Nat) (c : (List Int) × (List Int) × (List Int) × Int) (Ko : Exit → Fr → Option ρ) (s : Int) (nx : ((List Int) × (List Int) × (List Int) × Int) → (Int) → Option ρ) :
    AEO (env n) (answers ρ (used n) (used n)) (tab ρ n) b2 (F2 c s) (thenO (fun A => bnd (d2 (restr (keepOf (env n) b2) A)) fun p => nx p.1 p.2) Ko) = st2 n c Ko s (nx c) := by kernel_rfl
theorem lp2_ok {ρ : Type} (n : Nat) (hl : EntsOK Tryd.prog gl (used n)) : ∀ (A : Fr) (Ko : Exit → Fr → Option ρ) (r : ρ) (K : Exit → Fr → Prop), (bnd (d2 (restr (keepOf (env n) b2) A)) fun p => iterM (st2 n p.1 Ko) n p.2) = some r → (∀ e A, Ko e A = some r → K e A) → Gx.Sem Tryd.prog (env n) (.loop b2) A K :=
  fun A Ko r K h hk => loop_cod (P := Tryd.prog) (E := env n) (T := tab ρ n) (fun _ _ _ h => answers_ok h) F2 d2 (st2 n) d2_ok (show Cov _ (env n) (tab ρ n) b2 from ⟨trivial, ⟨⟨trivial, trivial⟩, ⟨⟨trivial, ⟨⟨trivial, ⟨⟨trivial, trivial⟩, trivial⟩⟩, ⟨trivial, ⟨trivial, ⟨trivial, ⟨⟨trivial, trivial⟩, trivial⟩⟩⟩⟩⟩⟩, trivial⟩⟩⟩) (fun c Ko s nx => step2 ρ n c Ko s nx) n A Ko r K h hk
def enc (a : (List Int) × (List Int)) : List AV := [.ls (.ints .i64 a.1), .ls (.ints .i64 a.2)]
def dec : List AV → Option ((List Int) × (List Int))
  | [.ls (.ints .i64 s10), .ls (.ints .i64 s21)] => some (s10, s21)
  | _ => none
def emb (b : Int) : AV × List AV := (.pv (.int .i64 b), [])
def dr : AV → List AV → Option (Int)
  | .pv (.int .i64 r0), [] => some r0
  | _, _ => none
theorem dec_ok (vs : List AV) (a : (List Int) × (List Int)) (h : dec vs = some a) : vs = enc a := by
  unfold dec at h
  split at h
  · cases h; rfl
  · cases h
theorem dr_ok (v : AV) (o : List AV) (b : Int) (h : dr v o = some b) : emb b = (v, o) := by
  unfold dr at h
  split at h
  · cases h; rfl
  · cases h
noncomputable def ent (n : Nat) : Ent := { f := 104, ms := [.lend, .lend], α := (List Int) × (List Int), β := Int, dec := dec, enc := enc, emb := emb, m := fun a => Gm.slices_Compare_intint n a.1 a.2, hdec := dec_ok }
theorem run (n : Nat) (a : (List Int) × (List Int)) : AEO (env n) (answers (Int) (used n) (used n)) (tab (Int) n) body (frameOf (enc a) 0) (bodyO (env n) Tryd.f104.results.toList (enc a) dr) = (ent n).m a := by kernel_rfl
theorem ok (n : Nat) (hl : EntsOK Tryd.prog gl (used n)) : EntOK Tryd.prog gl (ent n) :=
  fnO_sound (P := Tryd.prog) (e := ent n) (fn := Tryd.f104) (body := body) (l := used n) (te := te) (gl := gl) (n := ⟨4, 36⟩) (cut := []) (keep := keep) (T := tab (Int) n) (dr := dr) Tryd.func104 (by kernel_rfl) (by kernel_rfl) te_ok (by kernel_rfl) (by kernel_rfl) hl (show Cov _ (env n) (tab (Int) n) body from ⟨trivial, ⟨⟨trivial, lp2_ok n hl⟩, ⟨⟨trivial, ⟨⟨trivial, trivial⟩, trivial⟩⟩, ⟨trivial, trivial⟩⟩⟩⟩) dr_ok (fun a => ⟨rfl, rfl⟩) (run n)
theorem all_ok (n : Nat) : EntOK Tryd.prog gl (ent n) := ok n ⟨W_cmp_Compare_int.all_ok n, trivial⟩
end W_slices_Compare_intint
namespace W_triple_system_design_1
noncomputable def body : Code := Tryd.f103.body.getD .skip
def keep : List (Nat × List Nat) := []
noncomputable def used (n : Nat) : List Ent := [W_slices_Compare_intint.ent n]
noncomputable def env (n : Nat) : Env := envOf te gl (used n) ⟨4, 8⟩ [] keep
noncomputable def tab (ρ : Type) (_n : Nat) : Tab ρ := { live := [(0, [0, 1]), (1, [4])], xl := [], rl := [4], fz := [], jp := [], lp := [] }
def enc (a : (List Int) × (List Int)) : List AV := [.ls (.ints .i64 a.1), .ls (.ints .i64 a.2)]
def dec : List AV → Option ((List Int) × (List Int))
  | [.ls (.ints .i64 a0), .ls (.ints .i64 b1)] => some (a0, b1)
  | _ => none
def emb (b : Int) : AV × List AV := (.pv (.int .i64 b), [])
def dr : AV → List AV → Option (Int)
  | .pv (.int .i64 r0), [] => some r0
  | _, _ => none
theorem dec_ok (vs : List AV) (a : (List Int) × (List Int)) (h : dec vs = some a) : vs = enc a := by
  unfold dec at h
  split at h
  · cases h; rfl
  · cases h
theorem dr_ok (v : AV) (o : List AV) (b : Int) (h : dr v o = some b) : emb b = (v, o) := by
  unfold dr at h
  split at h
  · cases h; rfl
  · cases h
noncomputable def ent (n : Nat) : Ent := { f := 103, ms := [.lend, .lend], α := (List Int) × (List Int), β := Int, dec := dec, enc := enc, emb := emb, m := fun a => Gm.triple_system_design_1 n a.1 a.2, hdec := dec_ok }
theorem run (n : Nat) (a : (List Int) × (List Int)) : AEO (env n) (answers (Int) (used n) (used n)) (tab (Int) n) body (frameOf (enc a) 0) (bodyO (env n) Tryd.f103.results.toList (enc a) dr) = (ent n).m a := by kernel_rfl
theorem ok (n : Nat) (hl : EntsOK Tryd.prog gl (used n)) : EntOK Tryd.prog gl (ent n) :=
  fnO_sound (P := Tryd.prog) (e := ent n) (fn := Tryd.f103) (body := body) (l := used n) (te := te) (gl := gl) (n := ⟨4, 8⟩) (cut := []) (keep := keep) (T := tab (Int) n) (dr := dr) Tryd.func103 (by kernel_rfl) (by kernel_rfl) te_ok (by kernel_rfl) (by kernel_rfl) hl (show Cov _ (env n) (tab (Int) n) body from ⟨trivial, ⟨trivial, trivial⟩⟩) dr_ok (fun a => ⟨rfl, rfl⟩) (run n)
theorem all_ok (n : Nat) : EntOK Tryd.prog gl (ent n) := ok n ⟨W_slices_Compare_intint.all_ok n, trivial⟩
end W_triple_system_design_1
namespace W_slices_SortFunc__triple_system_design_1
def ent (n : Nat) : Ent := sortLE 102 22 103 n
theorem all_ok (n : Nat) : EntOK Tryd.prog gl (ent n) := sortL_ok (g := 103) (n := n) (ce := W_triple_system_design_1.ent n) (by kernel_rfl) (fun α _ enc h1 cf h2 cb blk off cap d w eg h3 h4 h5 h6 => Any.slices_SortFunc Tryd.sortL enc h1 cf h2 103 cb blk off cap d w eg h3 h4 h5 h6) (fun p cap fv w => AnyF.slices_SortFunc_none (P := Tryd.prog) (ρ := Tryd.sortL_ren) { Tryd.sortL with } p cap fv w) (W_triple_system_design_1.all_ok n) rfl (fun a b ha hb => ⟨(a, b), cmpL a b, rfl, Law.triple_system_design_1_eq n a b ha hb, rfl⟩)
end W_slices_SortFunc__triple_system_design_1
namespace W_triple_system_design
noncomputable def body : Code := Tryd.f60.body.getD .skip
def keep : List (Nat × List Nat) := []
noncomputable def used (n : Nat) : List Ent := [W_slices_SortFunc__triple_system_design_1.ent n]
noncomputable def env (n : Nat) : Env := envOf te gl (used n) ⟨2, 19⟩ [] keep
noncomputable def tab (ρ : Type) (_n : Nat) : Tab ρ := { live := [(0, [0, 2]), (1, [0, 2]), (2, [0, 2])], xl := [], rl := [0, 2], fz := [], jp := [], lp := [] }
def enc (a : (List (List Int)) × Int) : List AV := [.bx [.ow 22 (.rows a.1), .pv (.int .i64 a.2)]]
def dec : List AV → Option ((List (List Int)) × Int)
  | [.bx [.ow 22 (.rows s_0_0), .pv (.int .i64 s_0_1)]] => some (s_0_0, s_0_1)
  | _ => none
def emb (b : Int × (List (List Int)) × (List (List Int)) × Int) : AV × List AV := (.ag [.pv (.int .i64 b.1), .sl (.rows b.2.1)], [.bx [.sl (.rows b.2.2.1), .pv (.int .i64 b.2.2.2)]])
def dr : AV → List AV → Option (Int × (List (List Int)) × (List (List Int)) × Int)
  | .ag [.pv (.int .i64 r0), .sl (.rows r1)], [.bx [.sl (.rows r2), .pv (.int .i64 r3)]] => some (r0, r1, r2, r3)
  | _, _ => none
theorem dec_ok (vs : List AV) (a : (List (List Int)) × Int) (h : dec vs = some a) : vs = enc a := by
  unfold dec at h
  split at h
  · cases h; rfl
  · cases h
theorem dr_ok (v : AV) (o : List AV) (b : Int × (List (List Int)) × (List (List Int)) × Int) (h : dr v o = some b) : emb b = (v, o) := by
  unfold dr at h
  split at h
  · cases h; rfl
  · cases h
noncomputable def ent (n : Nat) : Ent := { f := 60, ms := [.io], α := (List (List Int)) × Int, β := Int × (List (List Int)) × (List (List Int)) × Int, dec := dec, enc := enc, emb := emb, m := fun a => Gm.triple_system_design n a.1 a.2, hdec := dec_ok }
theorem run (n : Nat) (a : (List (List Int)) × Int) : AEO (env n) (answers (Int × (List (List Int)) × (List (List Int)) × Int) (used n) (used n)) (tab (Int × (List (List Int)) × (List (List Int)) × Int) n) body (frameOf (enc a) 0) (bodyO (env n) Tryd.f60.results.toList (enc a) dr) = (ent n).m a := by kernel_rfl
theorem ok (n : Nat) (hl : EntsOK Tryd.prog gl (used n)) : EntOK Tryd.prog gl (ent n) :=
  fnO_sound (P := Tryd.prog) (e := ent n) (fn := Tryd.f60) (body := body) (l := used n) (te := te) (gl := gl) (n := ⟨2, 19⟩) (cut := []) (keep := keep) (T := tab (Int × (List (List Int)) × (List (List Int)) × Int) n) (dr := dr) Tryd.func60 (by kernel_rfl) (by kernel_rfl) te_ok (by kernel_rfl) (by kernel_rfl) hl (show Cov _ (env n) (tab (Int × (List (List Int)) × (List (List Int)) × Int) n) body from ⟨trivial, ⟨trivial, ⟨trivial, trivial⟩⟩⟩) dr_ok (fun a => ⟨rfl, rfl⟩) (run n)
theorem all_ok (n : Nat) : EntOK Tryd.prog gl (ent n) := ok n ⟨W_slices_SortFunc__triple_system_design_1.all_ok n, trivial⟩
end W_triple_system_design
namespace W_triple_Double
noncomputable def body : Code := Tryd.f27.body.getD .skip
def keep : List (Nat × List Nat) := [(9, [1, 2, 5, 6, 30, 31]), (14, [2, 5, 6, 46, 47, 48]), (18, [2, 5, 6, 9, 46, 47, 48, 65, 66, 67])]
noncomputable def used (n : Nat) : List Ent := [W_triple_Check.ent n, W_triple_lister_add.ent n, W_triple_system_design.ent n]
noncomputable def env (n : Nat) : Env := envOf te gl (used n) ⟨1, 97⟩ [] keep
def F9 (c : Int × (List (List Int)) × Int × (List (List Int)) × Int × Int) (s : (List (List Int)) × Int × Int) : Fr := [(1, .bx [.pv (.int .i64 c.1), .ls (.rows c.2.1)]), (2, .bx [.pv (.int .i64 c.2.2.1), .ow 22 (.rows c.2.2.2.1)]), (5, .pv (.int .i64 c.2.2.2.2.1)), (6, .bx [.ow 22 (.rows s.1), .pv (.int .i64 s.2.1)]), (30, .pv (.int .i64 c.2.2.2.2.2)), (31, .pv (.int .i64 s.2.2))]
def d9 : Fr → Option ((Int × (List (List Int)) × Int × (List (List Int)) × Int × Int) × ((List (List Int)) × Int × Int))
  | [(1, .bx [.pv (.int .i64 t1_0), .ls (.rows t1_1)]), (2, .bx [.pv (.int .i64 t2_0), .ow 22 (.rows t2_1)]), (5, .pv (.int .i64 t5)), (6, .bx [.ow 22 (.rows t6_0), .pv (.int .i64 t6_1)]), (30, .pv (.int .i64 t30)), (31, .pv (.int .i64 t31))] => some ((t1_0, t1_1, t2_0, t2_1, t5, t30), (t6_0, t6_1, t31))
  | _ => none
def st9 {ρ : Type} (n : Nat) (c : Int × (List (List Int)) × Int × (List (List Int)) × Int × Int) (Ko : Exit → Fr → Option ρ) (s : (List (List Int)) × Int × Int) (nx : ((List (List Int)) × Int × Int) → Option ρ) : Option ρ :=
  Gm.triple_Double_s9 n c.1 c.2.1 c.2.2.1 c.2.2.2.1 c.2.2.2.2.1 c.2.2.2.2.2 s.1 s.2.1 s.2.2 (fun a0 a1 a2 => nx (a0, a1, a2)) (fun (y0 : List (List Int)) (y1 : Int) => Ko (.exit 0) [(1, .bx [.pv (.int .i64 c.1), .ls (.rows c.2.1)]), (2, .bx [.pv (.int .i64 c.2.2.1), .ow 22 (.rows c.2.2.2.1)]), (5, .pv (.int .i64 c.2.2.2.2.1)), (6, .bx [.ow 22 (.rows y0), .pv (.int .i64 y1)])])
def F18 (c : Int × (List (List Int)) × Int × (List Int) × (List (List Int)) × Int × Int × (List Int) × Int) (s : (List (List Int)) × Int × Int) : Fr := [(2, .bx [.pv (.int .i64 c.1), .ow 22 (.rows c.2.1)]), (5, .pv (.int .i64 c.2.2.1)), (6, .bx [.ow 22 (.rows s.1), .pv (.int .i64 s.2.1)]), (9, .sl (.ints .i64 c.2.2.2.1)), (46, .ls (.rows c.2.2.2.2.1)), (47, .pv (.int .i64 c.2.2.2.2.2.1)), (48, .pv (.int .i64 c.2.2.2.2.2.2.1)), (65, .sl (.ints .i64 c.2.2.2.2.2.2.2.1)), (66, .pv (.int .i64 c.2.2.2.2.2.2.2.2)), (67, .pv (.int .i64 s.2.2))]
def d18 : Fr → Option ((Int × (List (List Int)) × Int × (List Int) × (List (List Int)) × Int × Int × (List Int) × Int) × ((List (List Int)) × Int × Int))
  | [(2, .bx [.pv (.int .i64 t2_0), .ow 22 (.rows t2_1)]), (5, .pv (.int .i64 t5)), (6, .bx [.ow 22 (.rows t6_0), .pv (.int .i64 t6_1)]), (9, .sl (.ints .i64 t9)), (46, .ls (.rows t46)), (47, .pv (.int .i64 t47)), (48, .pv (.int .i64 t48)), (65, .sl (.ints .i64 t65)), (66, .pv (.int .i64 t66)), (67, .pv (.int .i64 t67))] => some ((t2_0, t2_1, t5, t9, t46, t47, t48, t65, t66), (t6_0, t6_1, t67))
  | _ => none
def st18 {ρ : Type} (n : Nat) (c : Int × (List (List Int)) × Int × (List Int) × (List (List Int)) × Int × Int × (List Int) × Int) (Ko : Exit → Fr → Option ρ) (s : (List (List Int)) × Int × Int) (nx : ((List (List Int)) × Int × Int) → Option ρ) : Option ρ :=
  Gm.triple_Double_s18 n c.1 c.2.1 c.2.2.1 c.2.2.2.1 c.2.2.2.2.1 c.2.2.2.2.2.1 c.2.2.2.2.2.2.1 c.2.2.2.2.2.2.2.1 c.2.2.2.2.2.2.2.2 s.1 s.2.1 s.2.2 (fun a0 a1 a2 => nx (a0, a1, a2)) (fun (y0 : List (List Int)) (y1 : Int) => Ko (.exit 4) [(2, .bx [.pv (.int .i64 c.1), .ow 22 (.rows c.2.1)]), (5, .pv (.int .i64 c.2.2.1)), (6, .bx [.ow 22 (.rows y0), .pv (.int .i64 y1)]), (46, .ls (.rows c.2.2.2.2.1)), (47, .pv (.int .i64 c.2.2.2.2.2.1)), (48, .pv (.int .i64 c.2.2.2.2.2.2.1))])
def F14 (c : Int × (List (List Int)) × Int × (List (List Int)) × Int) (s : (List (List Int)) × Int × Int) : Fr := [(2, .bx [.pv (.int .i64 c.1), .ow 22 (.rows c.2.1)]), (5, .pv (.int .i64 c.2.2.1)), (6, .bx [.ow 22 (.rows s.1), .pv (.int .i64 s.2.1)]), (46, .ls (.rows c.2.2.2.1)), (47, .pv (.int .i64 c.2.2.2.2)), (48, .pv (.int .i64 s.2.2))]
def d14 : Fr → Option ((Int × (List (List Int)) × Int × (List (List Int)) × Int) × ((List (List Int)) × Int × Int))
  | [(2, .bx [.pv (.int .i64 t2_0), .ow 22 (.rows t2_1)]), (5, .pv (.int .i64 t5)), (6, .bx [.ow 22 (.rows t6_0), .pv (.int .i64 t6_1)]), (46, .ls (.rows t46)), (47, .pv (.int .i64 t47)), (48, .pv (.int .i64 t48))] => some ((t2_0, t2_1, t5, t46, t47), (t6_0, t6_1, t48))
  | _ => none
def st14 {ρ : Type} (n : Nat) (c : Int × (List (List Int)) × Int × (List (List Int)) × Int) (Ko : Exit → Fr → Option ρ) (s : (List (List Int)) × Int × Int) (nx : ((List (List Int)) × Int × Int) → Option ρ) : Option ρ :=
  Gm.triple_Double_s14 n c.1 c.2.1 c.2.2.1 c.2.2.2.1 c.2.2.2.2 s.1 s.2.1 s.2.2 (fun a0 a1 a2 => nx (a0, a1, a2)) (fun (y0 : List (List Int)) (y1 : Int) => Ko (.exit 2) [(2, .bx [.pv (.int .i64 c.1), .ow 22 (.rows c.2.1)]), (6, .bx [.ow 22 (.rows y0), .pv (.int .i64 y1)])])
noncomputable def tab (ρ : Type) (n : Nat) : Tab ρ := { live := [(0, [1, 2]), (1, [1, 2, 4]), (2, [1, 2, 4, 15]), (3, [2, 3]), (4, [1, 2, 5]), (5, [1, 2, 5, 23]), (6, [2, 3]), (7, [1, 2, 5, 6]), (8, [1, 2, 5, 6, 30, 31]), (9, [1, 2, 5, 6, 30, 31, 32]), (10, [1, 2, 5, 6, 7, 30, 31]), (11, [1, 2, 5, 6, 30, 31]), (12, [1, 2, 5, 6, 30, 31]), (13, [2, 5, 6, 46, 47, 48]), (14, [2, 5, 6, 46, 47, 48, 49]), (15, [2, 5, 6, 9, 46, 47, 48]), (16, [2, 5, 6, 9, 46, 47, 48]), (17, [2, 5, 6, 9, 46, 47, 48, 65, 66, 67]), (18, [2, 5, 6, 9, 46, 47, 48, 65, 66, 67, 68]), (19, [2, 5, 6, 9, 10, 11, 46, 47, 48, 65, 66, 67]), (20, [2, 5, 6, 9, 46, 47, 48, 65, 66, 67]), (21, [2, 5, 6, 9, 46, 47, 48, 65, 66, 67]), (22, [2, 5, 6, 46, 47, 48]), (23, [2, 3])], xl := [(0, [1, 2, 5, 6]), (1, [1, 2, 5, 6, 30, 31]), (2, [2, 6]), (3, [2, 5, 6, 46, 47, 48]), (4, [2, 5, 6, 46, 47, 48]), (5, [2, 5, 6, 9, 46, 47, 48, 65, 66, 67])], rl := [2, 3], fz := [], jp := [], lp := [(9, fun A Ko => bnd (d9 A) fun p => iterM (st9 n p.1 Ko) n p.2), (18, fun A Ko => bnd (d18 A) fun p => iterM (st18 n p.1 Ko) n p.2), (14, fun A Ko => bnd (d14 A) fun p => iterM (st14 n p.1 Ko) n p.2)] }
noncomputable def b9 : Code := (cL (cB (c2 (c1 (c2 (c2 (c2 (c2 (c2 body)))))))))
theorem d9_ok (A : Fr) (c : Int × (List (List Int)) × Int × (List (List Int)) × Int × Int) (s : (List (List Int)) × Int × Int) (h : d9 A = some (c, s)) : A = F9 c s := by
  unfold d9 at h
  split at h
  · cases h; rfl
  · cases h
theorem step9 (ρ : Type) (n : Nat) (c : Int × (List (List Int)) × Int × (List (List Int)) × Int × Int) (Ko : Exit → Fr → Option ρ) (s : (List (List Int)) × Int × Int) (nx : (Int × (List (List Int)) × Int × (List (List Int)) × Int × Int) → ((List (List Int)) × Int × Int) → Option ρ) :
    AEO (env n) (answers ρ (used n) (used n)) (tab ρ n) b9 (F9 c s) (thenO (fun A => bnd (d9 (restr (keepOf (env n) b9) A)) fun p => nx p.1 p.2) Ko) = st9 n c Ko s (nx c) := by kernel_rfl
theorem lp9_ok {ρ : Type} (n : Nat) (hl : EntsOK Tryd.prog gl (used n)) : ∀ (A : Fr) (Ko : Exit → Fr → Option ρ) (r : ρ) (K : Exit → Fr → Prop), (bnd (d9 (restr (keepOf (env n) b9) A)) fun p => iterM (st9 n p.1 Ko) n p.2) = some r → (∀ e A, Ko e A = some r → K e A) → Gx.Sem Tryd.prog (env n) (.loop b9) A K :=
  fun A Ko r K h hk => loop_cod (P := Tryd.prog) (E := env n) (T := tab ρ n) (fun _ _ _ h => answers_ok h) F9 d9 (st9 n) d9_ok (show Cov _ (env n) (tab ρ n) b9 from ⟨trivial, ⟨⟨trivial, trivial⟩, ⟨⟨trivial, trivial⟩, trivial⟩⟩⟩) (fun c Ko s nx => step9 ρ n c Ko s nx) n A Ko r K h hk
noncomputable def b18 : Code := (cL (cB (c2 (c2 (c2 (cB (c1 (c2 (c2 (cL (cB (c2 (c1 (c2 (c2 (c2 (c2 (c2 (c2 body)))))))))))))))))))
theorem d18_ok (A : Fr) (c : Int × (List (List Int)) × Int × (List Int) × (List (List Int)) × Int × Int × (List Int) × Int) (s : (List (List Int)) × Int × Int) (h : d18 A = some (c, s)) : A = F18 c s := by
  unfold d18 at h
  split at h
  · cases h; rfl
  · cases h
theorem step18 (ρ : Type) (n : Nat) (c : Int × (List (List Int)) × Int × (List Int) × (List (List Int)) × Int × Int × (List Int) × Int) (Ko : Exit → Fr → Option ρ) (s : (List (List Int)) × Int × Int) (nx : (Int × (List (List Int)) × Int × (List Int) × (List (List Int)) × Int × Int × (List Int) × Int) → ((List (List Int)) × Int × Int) → Option ρ) :
    AEO (env n) (answers ρ (used n) (used n)) (tab ρ n) b18 (F18 c s) (thenO (fun A => bnd (d18 (restr (keepOf (env n) b18) A)) fun p => nx p.1 p.2) Ko) = st18 n c Ko s (nx c) := by kernel_rfl
theorem lp18_ok {ρ : Type} (n : Nat) (hl : EntsOK Tryd.prog gl (used n)) : ∀ (A : Fr) (Ko : Exit → Fr → Option ρ) (r : ρ) (K : Exit → Fr → Prop), (bnd (d18 (restr (keepOf (env n) b18) A)) fun p => iterM (st18 n p.1 Ko) n p.2) = some r → (∀ e A, Ko e A = some r → K e A) → Gx.Sem Tryd.prog (env n) (.loop b18) A K :=
  fun A Ko r K h hk => loop_cod (P := Tryd.prog) (E := env n) (T := tab ρ n) (fun _ _ _ h => answers_ok h) F18 d18 (st18 n) d18_ok (show Cov _ (env n) (tab ρ n) b18 from ⟨trivial, ⟨⟨trivial, trivial⟩, ⟨⟨trivial, trivial⟩, trivial⟩⟩⟩) (fun c Ko s nx => step18 ρ n c Ko s nx) n A Ko r K h hk
noncomputable def b14 : Code := (cL (cB (c2 (c1 (c2 (c2 (c2 (c2 (c2 (c2 body))))))))))
theorem d14_ok (A : Fr) (c : Int × (List (List Int)) × Int × (List (List Int)) × Int) (s : (List (List Int)) × Int × Int) (h : d14 A = some (c, s)) : A = F14 c s := by
  unfold d14 at h
  split at h
  · cases h; rfl
  · cases h
theorem step14 (ρ : Type) (n : Nat) (c : Int × (List (List Int)) × Int × (List (List Int)) × Int) (Ko : Exit → Fr → Option ρ) (s : (List (List Int)) × Int × Int) (nx : (Int × (List (List Int)) × Int × (List (List Int)) × Int) → ((List (List Int)) × Int × Int) → Option ρ) :
    AEO (env n) (answers ρ (used n) (used n)) (tab ρ n) b14 (F14 c s) (thenO (fun A => bnd (d14 (restr (keepOf (env n) b14) A)) fun p => nx p.1 p.2) Ko) = st14 n c Ko s (nx c) := by kernel_rfl
theorem lp14_ok {ρ : Type} (n : Nat) (hl : EntsOK Tryd.prog gl (used n)) : ∀ (A : Fr) (Ko : Exit → Fr → Option ρ) (r : ρ) (K : Exit → Fr → Prop), (bnd (d14 (restr (keepOf (env n) b14) A)) fun p => iterM (st14 n p.1 Ko) n p.2) = some r → (∀ e A, Ko e A = some r → K e A) → Gx.Sem Tryd.prog (env n) (.loop b14) A K :=
  fun A Ko r K h hk => loop_cod (P := Tryd.prog) (E := env n) (T := tab ρ n) (fun _ _ _ h => answers_ok h) F14 d14 (st14 n) d14_ok (show Cov _ (env n) (tab ρ n) b14 from ⟨trivial, ⟨⟨trivial, trivial⟩, ⟨⟨trivial, ⟨trivial, ⟨trivial, lp18_ok n hl⟩⟩⟩, trivial⟩⟩⟩) (fun c Ko s nx => step14 ρ n c Ko s nx) n A Ko r K h hk
def enc (a : Int × (List (List Int))) : List AV := [.ag [.pv (.int .i64 a.1), .ls (.rows a.2)]]
def dec : List AV → Option (Int × (List (List Int)))
  | [.ag [.pv (.int .i64 toArray0_0), .ls (.rows toArray0_1)]] => some (toArray0_0, toArray0_1)
  | _ => none
def emb (b : Int × (List (List Int)) × Int) : AV × List AV := (.tp [.ag [.pv (.int .i64 b.1), .sl (.rows b.2.1)], .pv (.int .i64 b.2.2)], [])
def dr : AV → List AV → Option (Int × (List (List Int)) × Int)
  | .tp [.ag [.pv (.int .i64 r0), .sl (.rows r1)], .pv (.int .i64 r2)], [] => some (r0, r1, r2)
  | _, _ => none
theorem dec_ok (vs : List AV) (a : Int × (List (List Int))) (h : dec vs = some a) : vs = enc a := by
  unfold dec at h
  split at h
  · cases h; rfl
  · cases h
theorem dr_ok (v : AV) (o : List AV) (b : Int × (List (List Int)) × Int) (h : dr v o = some b) : emb b = (v, o) := by
  unfold dr at h
  split at h
  · cases h; rfl
  · cases h
noncomputable def ent (n : Nat) : Ent := { f := 27, ms := [.lend], α := Int × (List (List Int)), β := Int × (List (List Int)) × Int, dec := dec, enc := enc, emb := emb, m := fun a => Gm.triple_Double n a.1 a.2, hdec := dec_ok }
theorem run (n : Nat) (a : Int × (List (List Int))) : AEO (env n) (answers (Int × (List (List Int)) × Int) (used n) (used n)) (tab (Int × (List (List Int)) × Int) n) body (frameOf (enc a) 0) (bodyO (env n) Tryd.f27.results.toList (enc a) dr) = (ent n).m a := by kernel_rfl
theorem ok (n : Nat) (hl : EntsOK Tryd.prog gl (used n)) : EntOK Tryd.prog gl (ent n) :=
  fnO_sound (P := Tryd.prog) (e := ent n) (fn := Tryd.f27) (body := body) (l := used n) (te := te) (gl := gl) (n := ⟨1, 97⟩) (cut := []) (keep := keep) (T := tab (Int × (List (List Int)) × Int) n) (dr := dr) Tryd.func27 (by kernel_rfl) (by kernel_rfl) te_ok (by kernel_rfl) (by kernel_rfl) hl (show Cov _ (env n) (tab (Int × (List (List Int)) × Int) n) body from ⟨trivial, ⟨⟨trivial, ⟨trivial, ⟨⟨trivial, trivial⟩, trivial⟩⟩⟩, ⟨trivial, ⟨⟨trivial, ⟨⟨trivial, trivial⟩, trivial⟩⟩, ⟨trivial, ⟨⟨trivial, lp9_ok n hl⟩, ⟨⟨trivial, lp14_ok n hl⟩, ⟨trivial, trivial⟩⟩⟩⟩⟩⟩⟩⟩) dr_ok (fun a => ⟨rfl, rfl⟩) (run n)
theorem all_ok (n : Nat) : EntOK Tryd.prog gl (ent n) := ok n ⟨W_triple_Check.all_ok n, W_triple_lister_add.all_ok n, W_triple_system_design.all_ok n, trivial⟩
end W_triple_Double
namespace W_triple_Product
noncomputable def body : Code := Tryd.f28.body.getD .skip
def keep : List (Nat × List Nat) := [(2, [2, 3, 4, 24, 25, 26]), (13, [2, 3, 4, 9, 10, 11, 52, 53, 54]), (16, [2, 3, 4, 9, 10, 11, 13, 52, 53, 54, 58, 59]), (22, [3, 4, 10, 11, 90, 91, 92]), (25, [3, 4, 10, 11, 16, 90, 91, 92, 96, 97]), (30, [3, 4, 10, 11, 16, 90, 91, 92, 127, 128, 129]), (33, [3, 4, 10, 11, 16, 19, 90, 91, 92, 127, 128, 129, 133, 134])]
noncomputable def used (n : Nat) : List Ent := [W_triple_Check.ent n, W_triple_lister_add.ent n, W_triple_system_design.ent n]
noncomputable def env (n : Nat) : Env := envOf te gl (used n) ⟨2, 179⟩ [] keep
def F2 (c : Int × (List (List Int)) × Int × (List (List Int)) × Int × (List (List Int)) × Int × (List (List Int)) × Int × (List (List Int)) × Int) (s : Int) : Fr := [(2, .bx [.pv (.int .i64 c.1), .ls (.rows c.2.1)]), (3, .bx [.pv (.int .i64 c.2.2.1), .ls (.rows c.2.2.2.1)]), (4, .bx [.pv (.int .i64 c.2.2.2.2.1), .ow 22 (.rows c.2.2.2.2.2.1)]), (24, .ss 2 [.pv (.int .i64 c.2.2.2.2.2.2.1), .ls (.rows c.2.2.2.2.2.2.2.1), .pv (.int .i64 c.2.2.2.2.2.2.2.2.1), .ls (.rows c.2.2.2.2.2.2.2.2.2.1)]), (25, .pv (.int .i64 c.2.2.2.2.2.2.2.2.2.2)), (26, .pv (.int .i64 s))]
def d2 : Fr → Option ((Int × (List (List Int)) × Int × (List (List Int)) × Int × (List (List Int)) × Int × (List (List Int)) × Int × (List (List Int)) × Int) × (Int))
  | [(2, .bx [.pv (.int .i64 t2_0), .ls (.rows t2_1)]), (3, .bx [.pv (.int .i64 t3_0), .ls (.rows t3_1)]), (4, .bx [.pv (.int .i64 t4_0), .ow 22 (.rows t4_1)]), (24, .ss 2 [.pv (.int .i64 t24_0), .ls (.rows t24_1), .pv (.int .i64 t24_2), .ls (.rows t24_3)]), (25, .pv (.int .i64 t25)), (26, .pv (.int .i64 t26))] => some ((t2_0, t2_1, t3_0, t3_1, t4_0, t4_1, t24_0, t24_1, t24_2, t24_3, t25), t26)
  | _ => none
def st2 {ρ : Type} (n : Nat) (c : Int × (List (List Int)) × Int × (List (List Int)) × Int × (List (List Int)) × Int × (List (List Int)) × Int × (List (List Int)) × Int) (Ko : Exit → Fr → Option ρ) (s : Int) (nx : Int → Option ρ) : Option ρ :=
  Gm.triple_Product_s2 n c.1 c.2.1 c.2.2.1 c.2.2.2.1 c.2.2.2.2.1 c.2.2.2.2.2.1 c.2.2.2.2.2.2.1 c.2.2.2.2.2.2.2.1 c.2.2.2.2.2.2.2.2.1 c.2.2.2.2.2.2.2.2.2.1 c.2.2.2.2.2.2.2.2.2.2 s nx (fun (y0 : Int) (y1 : List (List Int)) => Ko .ret [(5, .pv (.int .i64 y0)), (4, .bx [.pv (.int .i64 0), .nl 22 (.rows y1)])]) (Ko (.exit 0) [(2, .bx [.pv (.int .i64 c.1), .ls (.rows c.2.1)]), (3, .bx [.pv (.int .i64 c.2.2.1), .ls (.rows c.2.2.2.1)]), (4, .bx [.pv (.int .i64 c.2.2.2.2.1), .ow 22 (.rows c.2.2.2.2.2.1)])])
def F16 (c : Int × (List (List Int)) × Int × (List (List Int)) × Int × (List (List Int)) × Int × Int × (List Int) × (List (List Int)) × Int × Int × Int) (s : (List (List Int)) × Int × Int) : Fr := [(2, .bx [.pv (.int .i64 c.1), .ls (.rows c.2.1)]), (3, .bx [.pv (.int .i64 c.2.2.1), .ls (.rows c.2.2.2.1)]), (4, .bx [.pv (.int .i64 c.2.2.2.2.1), .ow 22 (.rows c.2.2.2.2.2.1)]), (9, .pv (.int .i64 c.2.2.2.2.2.2.1)), (10, .pv (.int .i64 c.2.2.2.2.2.2.2.1)), (11, .bx [.ow 22 (.rows s.1), .pv (.int .i64 s.2.1)]), (13, .sl (.ints .i64 c.2.2.2.2.2.2.2.2.1)), (52, .ls (.rows c.2.2.2.2.2.2.2.2.2.1)), (53, .pv (.int .i64 c.2.2.2.2.2.2.2.2.2.2.1)), (54, .pv (.int .i64 c.2.2.2.2.2.2.2.2.2.2.2.1)), (58, .pv (.int .i64 c.2.2.2.2.2.2.2.2.2.2.2.2)), (59, .pv (.int .i64 s.2.2))]
def d16 : Fr → Option ((Int × (List (List Int)) × Int × (List (List Int)) × Int × (List (List Int)) × Int × Int × (List Int) × (List (List Int)) × Int × Int × Int) × ((List (List Int)) × Int × Int))
  | [(2, .bx [.pv (.int .i64 t2_0), .ls (.rows t2_1)]), (3, .bx [.pv (.int .i64 t3_0), .ls (.rows t3_1)]), (4, .bx [.pv (.int .i64 t4_0), .ow 22 (.rows t4_1)]), (9, .pv (.int .i64 t9)), (10, .pv (.int .i64 t10)), (11, .bx [.ow 22 (.rows t11_0), .pv (.int .i64 t11_1)]), (13, .sl (.ints .i64 t13)), (52, .ls (.rows t52)), (53, .pv (.int .i64 t53)), (54, .pv (.int .i64 t54)), (58, .pv (.int .i64 t58)), (59, .pv (.int .i64 t59))] => some ((t2_0, t2_1, t3_0, t3_1, t4_0, t4_1, t9, t10, t13, t52, t53, t54, t58), (t11_0, t11_1, t59))
  | _ => none
def st16 {ρ : Type} (n : Nat) (c : Int × (List (List Int)) × Int × (List (List Int)) × Int × (List (List Int)) × Int × Int × (List Int) × (List (List Int)) × Int × Int × Int) (Ko : Exit → Fr → Option ρ) (s : (List (List Int)) × Int × Int) (nx : ((List (List Int)) × Int × Int) → Option ρ) : Option ρ :=
  Gm.triple_Product_s16 n c.1 c.2.1 c.2.2.1 c.2.2.2.1 c.2.2.2.2.1 c.2.2.2.2.2.1 c.2.2.2.2.2.2.1 c.2.2.2.2.2.2.2.1 c.2.2.2.2.2.2.2.2.1 c.2.2.2.2.2.2.2.2.2.1 c.2.2.2.2.2.2.2.2.2.2.1 c.2.2.2.2.2.2.2.2.2.2.2.1 c.2.2.2.2.2.2.2.2.2.2.2.2 s.1 s.2.1 s.2.2 (fun a0 a1 a2 => nx (a0, a1, a2)) (fun (y0 : List (List Int)) (y1 : Int) => Ko (.exit 4) [(2, .bx [.pv (.int .i64 c.1), .ls (.rows c.2.1)]), (3, .bx [.pv (.int .i64 c.2.2.1), .ls (.rows c.2.2.2.1)]), (4, .bx [.pv (.int .i64 c.2.2.2.2.1), .ow 22 (.rows c.2.2.2.2.2.1)]), (9, .pv (.int .i64 c.2.2.2.2.2.2.1)), (10, .pv (.int .i64 c.2.2.2.2.2.2.2.1)), (11, .bx [.ow 22 (.rows y0), .pv (.int .i64 y1)]), (52, .ls (.rows c.2.2.2.2.2.2.2.2.2.1)), (53, .pv (.int .i64 c.2.2.2.2.2.2.2.2.2.2.1)), (54, .pv (.int .i64 c.2.2.2.2.2.2.2.2.2.2.2.1))])
def F13 (c : Int × (List (List Int)) × Int × (List (List Int)) × Int × (List (List Int)) × Int × Int × (List (List Int)) × Int) (s : (List (List Int)) × Int × Int) : Fr := [(2, .bx [.pv (.int .i64 c.1), .ls (.rows c.2.1)]), (3, .bx [.pv (.int .i64 c.2.2.1), .ls (.rows c.2.2.2.1)]), (4, .bx [.pv (.int .i64 c.2.2.2.2.1), .ow 22 (.rows c.2.2.2.2.2.1)]), (9, .pv (.int .i64 c.2.2.2.2.2.2.1)), (10, .pv (.int .i64 c.2.2.2.2.2.2.2.1)), (11, .bx [.ow 22 (.rows s.1), .pv (.int .i64 s.2.1)]), (52, .ls (.rows c.2.2.2.2.2.2.2.2.1)), (53, .pv (.int .i64 c.2.2.2.2.2.2.2.2.2)), (54, .pv (.int .i64 s.2.2))]
def d13 : Fr → Option ((Int × (List (List Int)) × Int × (List (List Int)) × Int × (List (List Int)) × Int × Int × (List (List Int)) × Int) × ((List (List Int)) × Int × Int))
  | [(2, .bx [.pv (.int .i64 t2_0), .ls (.rows t2_1)]), (3, .bx [.pv (.int .i64 t3_0), .ls (.rows t3_1)]), (4, .bx [.pv (.int .i64 t4_0), .ow 22 (.rows t4_1)]), (9, .pv (.int .i64 t9)), (10, .pv (.int .i64 t10)), (11, .bx [.ow 22 (.rows t11_0), .pv (.int .i64 t11_1)]), (52, .ls (.rows t52)), (53, .pv (.int .i64 t53)), (54, .pv (.int .i64 t54))] => some ((t2_0, t2_1, t3_0, t3_1, t4_0, t4_1, t9, t10, t52, t53), (t11_0, t11_1, t54))
  | _ => none
def st13 {ρ : Type} (n : Nat) (c : Int × (List (List Int)) × Int × (List (List Int)) × Int × (List (List Int)) × Int × Int × (List (List Int)) × Int) (Ko : Exit → Fr → Option ρ) (s : (List (List Int)) × Int × Int) (nx : ((List (List Int)) × Int × Int) → Option ρ) : Option ρ :=
  Gm.triple_Product_s13 n c.1 c.2.1 c.2.2.1 c.2.2.2.1 c.2.2.2.2.1 c.2.2.2.2.2.1 c.2.2.2.2.2.2.1 c.2.2.2.2.2.2.2.1 c.2.2.2.2.2.2.2.2.1 c.2.2.2.2.2.2.2.2.2 s.1 s.2.1 s.2.2 (fun a0 a1 a2 => nx (a0, a1, a2)) (fun (y0 : List (List Int)) (y1 : Int) => Ko (.exit 2) [(2, .bx [.pv (.int .i64 c.1), .ls (.rows c.2.1)]), (3, .bx [.pv (.int .i64 c.2.2.1), .ls (.rows c.2.2.2.1)]), (4, .bx [.pv (.int .i64 c.2.2.2.2.1), .ow 22 (.rows c.2.2.2.2.2.1)]), (10, .pv (.int .i64 c.2.2.2.2.2.2.2.1)), (11, .bx [.ow 22 (.rows y0), .pv (.int .i64 y1)])])
def F25 (c : Int × (List (List Int)) × Int × (List (List Int)) × Int × (List Int) × (List (List Int)) × Int × Int × Int) (s : (List (List Int)) × Int × Int) : Fr := [(3, .bx [.pv (.int .i64 c.1), .ls (.rows c.2.1)]), (4, .bx [.pv (.int .i64 c.2.2.1), .ow 22 (.rows c.2.2.2.1)]), (10, .pv (.int .i64 c.2.2.2.2.1)), (11, .bx [.ow 22 (.rows s.1), .pv (.int .i64 s.2.1)]), (16, .sl (.ints .i64 c.2.2.2.2.2.1)), (90, .ls (.rows c.2.2.2.2.2.2.1)), (91, .pv (.int .i64 c.2.2.2.2.2.2.2.1)), (92, .pv (.int .i64 c.2.2.2.2.2.2.2.2.1)), (96, .pv (.int .i64 c.2.2.2.2.2.2.2.2.2)), (97, .pv (.int .i64 s.2.2))]
def d25 : Fr → Option ((Int × (List (List Int)) × Int × (List (List Int)) × Int × (List Int) × (List (List Int)) × Int × Int × Int) × ((List (List Int)) × Int × Int))
  | [(3, .bx [.pv (.int .i64 t3_0), .ls (.rows t3_1)]), (4, .bx [.pv (.int .i64 t4_0), .ow 22 (.rows t4_1)]), (10, .pv (.int .i64 t10)), (11, .bx [.ow 22 (.rows t11_0), .pv (.int .i64 t11_1)]), (16, .sl (.ints .i64 t16)), (90, .ls (.rows t90)), (91, .pv (.int .i64 t91)), (92, .pv (.int .i64 t92)), (96, .pv (.int .i64 t96)), (97, .pv (.int .i64 t97))] => some ((t3_0, t3_1, t4_0, t4_1, t10, t16, t90, t91, t92, t96), (t11_0, t11_1, t97))
  | _ => none
def st25 {ρ : Type} (n : Nat) (c : Int × (List (List Int)) × Int × (List (List Int)) × Int × (List Int) × (List (List Int)) × Int × Int × Int) (Ko : Exit → Fr → Option ρ) (s : (List (List Int)) × Int × Int) (nx : ((List (List Int)) × Int × Int) → Option ρ) : Option ρ :=
  Gm.triple_Product_s25 n c.1 c.2.1 c.2.2.1 c.2.2.2.1 c.2.2.2.2.1 c.2.2.2.2.2.1 c.2.2.2.2.2.2.1 c.2.2.2.2.2.2.2.1 c.2.2.2.2.2.2.2.2.1 c.2.2.2.2.2.2.2.2.2 s.1 s.2.1 s.2.2 (fun a0 a1 a2 => nx (a0, a1, a2)) (fun (y0 : List (List Int)) (y1 : Int) => Ko (.exit 8) [(3, .bx [.pv (.int .i64 c.1), .ls (.rows c.2.1)]), (4, .bx [.pv (.int .i64 c.2.2.1), .ow 22 (.rows c.2.2.2.1)]), (10, .pv (.int .i64 c.2.2.2.2.1)), (11, .bx [.ow 22 (.rows y0), .pv (.int .i64 y1)]), (16, .sl (.ints .i64 c.2.2.2.2.2.1)), (90, .ls (.rows c.2.2.2.2.2.2.1)), (91, .pv (.int .i64 c.2.2.2.2.2.2.2.1)), (92, .pv (.int .i64 c.2.2.2.2.2.2.2.2.1))])
def F33 (c : Int × (List (List Int)) × Int × (List (List Int)) × Int × (List Int) × (List Int) × (List (List Int)) × Int × Int × (List (List Int)) × Int × Int × (List Int)) (s : (List (List Int)) × Int × Int) : Fr := [(3, .bx [.pv (.int .i64 c.1), .ls (.rows c.2.1)]), (4, .bx [.pv (.int .i64 c.2.2.1), .ow 22 (.rows c.2.2.2.1)]), (10, .pv (.int .i64 c.2.2.2.2.1)), (11, .bx [.ow 22 (.rows s.1), .pv (.int .i64 s.2.1)]), (16, .sl (.ints .i64 c.2.2.2.2.2.1)), (19, .sl (.ints .i64 c.2.2.2.2.2.2.1)), (90, .ls (.rows c.2.2.2.2.2.2.2.1)), (91, .pv (.int .i64 c.2.2.2.2.2.2.2.2.1)), (92, .pv (.int .i64 c.2.2.2.2.2.2.2.2.2.1)), (127, .ls (.rows c.2.2.2.2.2.2.2.2.2.2.1)), (128, .pv (.int .i64 c.2.2.2.2.2.2.2.2.2.2.2.1)), (129, .pv (.int .i64 c.2.2.2.2.2.2.2.2.2.2.2.2.1)), (133, .aa (.ints .i64 c.2.2.2.2.2.2.2.2.2.2.2.2.2)), (134, .pv (.int .i64 s.2.2))]
def d33 : Fr → Option ((Int × (List (List Int)) × Int × (List (List Int)) × Int × (List Int) × (List Int) × (List (List Int)) × Int × Int × (List (List Int)) × Int × Int × (List Int)) × ((List (List Int)) × Int × Int))
  | [(3, .bx [.pv (.int .i64 t3_0), .ls (.rows t3_1)]), (4, .bx [.pv (.int .i64 t4_0), .ow 22 (.rows t4_1)]), (10, .pv (.int .i64 t10)), (11, .bx [.ow 22 (.rows t11_0), .pv (.int .i64 t11_1)]), (16, .sl (.ints .i64 t16)), (19, .sl (.ints .i64 t19)), (90, .ls (.rows t90)), (91, .pv (.int .i64 t91)), (92, .pv (.int .i64 t92)), (127, .ls (.rows t127)), (128, .pv (.int .i64 t128)), (129, .pv (.int .i64 t129)), (133, .aa (.ints .i64 t133)), (134, .pv (.int .i64 t134))] => some ((t3_0, t3_1, t4_0, t4_1, t10, t16, t19, t90, t91, t92, t127, t128, t129, t133), (t11_0, t11_1, t134))
  | _ => none
def st33 {ρ : Type} (n : Nat) (c : Int × (List (List Int)) × Int × (List (List Int)) × Int × (List Int) × (List Int) × (List (List Int)) × Int × Int × (List (List Int)) × Int × Int × (List Int)) (Ko : Exit → Fr → Option ρ) (s : (List (List Int)) × Int × Int) (nx : ((List (List Int)) × Int × Int) → Option ρ) : Option ρ :=
  Gm.triple_Product_s33 n c.1 c.2.1 c.2.2.1 c.2.2.2.1 c.2.2.2.2.1 c.2.2.2.2.2.1 c.2.2.2.2.2.2.1 c.2.2.2.2.2.2.2.1 c.2.2.2.2.2.2.2.2.1 c.2.2.2.2.2.2.2.2.2.1 c.2.2.2.2.2.2.2.2.2.2.1 c.2.2.2.2.2.2.2.2.2.2.2.1 c.2.2.2.2.2.2.2.2.2.2.2.2.1 c.2.2.2.2.2.2.2.2.2.2.2.2.2 s.1 s.2.1 s.2.2 (fun a0 a1 a2 => nx (a0, a1, a2)) (fun (y0 : List (List Int)) (y1 : Int) => Ko (.exit 12) [(3, .bx [.pv (.int .i64 c.1), .ls (.rows c.2.1)]), (4, .bx [.pv (.int .i64 c.2.2.1), .ow 22 (.rows c.2.2.2.1)]), (10, .pv (.int .i64 c.2.2.2.2.1)), (11, .bx [.ow 22 (.rows y0), .pv (.int .i64 y1)]), (16, .sl (.ints .i64 c.2.2.2.2.2.1)), (90, .ls (.rows c.2.2.2.2.2.2.2.1)), (91, .pv (.int .i64 c.2.2.2.2.2.2.2.2.1)), (92, .pv (.int .i64 c.2.2.2.2.2.2.2.2.2.1)), (127, .ls (.rows c.2.2.2.2.2.2.2.2.2.2.1)), (128, .pv (.int .i64 c.2.2.2.2.2.2.2.2.2.2.2.1)), (129, .pv (.int .i64 c.2.2.2.2.2.2.2.2.2.2.2.2.1))])
def F30 (c : Int × (List (List Int)) × Int × (List (List Int)) × Int × (List Int) × (List (List Int)) × Int × Int × (List (List Int)) × Int) (s : (List (List Int)) × Int × Int) : Fr := [(3, .bx [.pv (.int .i64 c.1), .ls (.rows c.2.1)]), (4, .bx [.pv (.int .i64 c.2.2.1), .ow 22 (.rows c.2.2.2.1)]), (10, .pv (.int .i64 c.2.2.2.2.1)), (11, .bx [.ow 22 (.rows s.1), .pv (.int .i64 s.2.1)]), (16, .sl (.ints .i64 c.2.2.2.2.2.1)), (90, .ls (.rows c.2.2.2.2.2.2.1)), (91, .pv (.int .i64 c.2.2.2.2.2.2.2.1)), (92, .pv (.int .i64 c.2.2.2.2.2.2.2.2.1)), (127, .ls (.rows c.2.2.2.2.2.2.2.2.2.1)), (128, .pv (.int .i64 c.2.2.2.2.2.2.2.2.2.2)), (129, .pv (.int .i64 s.2.2))]
def d30 : Fr → Option ((Int × (List (List Int)) × Int × (List (List Int)) × Int × (List Int) × (List (List Int)) × Int × Int × (List (List Int)) × Int) × ((List (List Int)) × Int × Int))
  | [(3, .bx [.pv (.int .i64 t3_0), .ls (.rows t3_1)]), (4, .bx [.pv (.int .i64 t4_0), .ow 22 (.rows t4_1)]), (10, .pv (.int .i64 t10)), (11, .bx [.ow 22 (.rows t11_0), .pv (.int .i64 t11_1)]), (16, .sl (.ints .i64 t16)), (90, .ls (.rows t90)), (91, .pv (.int .i64 t91)), (92, .pv (.int .i64 t92)), (127, .ls (.rows t127)), (128, .pv (.int .i64 t128)), (129, .pv (.int .i64 t129))] => some ((t3_0, t3_1, t4_0, t4_1, t10, t16, t90, t91, t92, t127, t128), (t11_0, t11_1, t129))
  | _ => none
def st30 {ρ : Type} (n : Nat) (c : Int × (List (List Int)) × Int × (List (List Int)) × Int × (List Int) × (List (List Int)) × Int × Int × (List (List Int)) × Int) (Ko : Exit → Fr → Option ρ) (s : (List (List Int)) × Int × Int) (nx : ((List (List Int)) × Int × Int) → Option ρ) : Option ρ :=
  Gm.triple_Product_s30 n c.1 c.2.1 c.2.2.1 c.2.2.2.1 c.2.2.2.2.1 c.2.2.2.2.2.1 c.2.2.2.2.2.2.1 c.2.2.2.2.2.2.2.1 c.2.2.2.2.2.2.2.2.1 c.2.2.2.2.2.2.2.2.2.1 c.2.2.2.2.2.2.2.2.2.2 s.1 s.2.1 s.2.2 (fun a0 a1 a2 => nx (a0, a1, a2)) (fun (y0 : List (List Int)) (y1 : Int) => Ko (.exit 10) [(3, .bx [.pv (.int .i64 c.1), .ls (.rows c.2.1)]), (4, .bx [.pv (.int .i64 c.2.2.1), .ow 22 (.rows c.2.2.2.1)]), (10, .pv (.int .i64 c.2.2.2.2.1)), (11, .bx [.ow 22 (.rows y0), .pv (.int .i64 y1)]), (90, .ls (.rows c.2.2.2.2.2.2.1)), (91, .pv (.int .i64 c.2.2.2.2.2.2.2.1)), (92, .pv (.int .i64 c.2.2.2.2.2.2.2.2.1))])
def F22 (c : Int × (List (List Int)) × Int × (List (List Int)) × Int × (List (List Int)) × Int) (s : (List (List Int)) × Int × Int) : Fr := [(3, .bx [.pv (.int .i64 c.1), .ls (.rows c.2.1)]), (4, .bx [.pv (.int .i64 c.2.2.1), .ow 22 (.rows c.2.2.2.1)]), (10, .pv (.int .i64 c.2.2.2.2.1)), (11, .bx [.ow 22 (.rows s.1), .pv (.int .i64 s.2.1)]), (90, .ls (.rows c.2.2.2.2.2.1)), (91, .pv (.int .i64 c.2.2.2.2.2.2)), (92, .pv (.int .i64 s.2.2))]
def d22 : Fr → Option ((Int × (List (List Int)) × Int × (List (List Int)) × Int × (List (List Int)) × Int) × ((List (List Int)) × Int × Int))
  | [(3, .bx [.pv (.int .i64 t3_0), .ls (.rows t3_1)]), (4, .bx [.pv (.int .i64 t4_0), .ow 22 (.rows t4_1)]), (10, .pv (.int .i64 t10)), (11, .bx [.ow 22 (.rows t11_0), .pv (.int .i64 t11_1)]), (90, .ls (.rows t90)), (91, .pv (.int .i64 t91)), (92, .pv (.int .i64 t92))] => some ((t3_0, t3_1, t4_0, t4_1, t10, t90, t91), (t11_0, t11_1, t92))
  | _ => none
def st22 {ρ : Type} (n : Nat) (c : Int × (List (List Int)) × Int × (List (List Int)) × Int × (List (List Int)) × Int) (Ko : Exit → Fr → Option ρ) (s : (List (List Int)) × Int × Int) (nx : ((List (List Int)) × Int × Int) → Option ρ) : Option ρ :=
  Gm.triple_Product_s22 n c.1 c.2.1 c.2.2.1 c.2.2.2.1 c.2.2.2.2.1 c.2.2.2.2.2.1 c.2.2.2.2.2.2 s.1 s.2.1 s.2.2 (fun a0 a1 a2 => nx (a0, a1, a2)) (fun (y0 : List (List Int)) (y1 : Int) => Ko (.exit 6) [(4, .bx [.pv (.int .i64 c.2.2.1), .ow 22 (.rows c.2.2.2.1)]), (11, .bx [.ow 22 (.rows y0), .pv (.int .i64 y1)])])
noncomputable def tab (ρ : Type) (n : Nat) : Tab ρ := { live := [(0, [2, 3, 4]), (1, [2, 3, 4, 24, 25, 26]), (2, [2, 3, 4, 24, 25, 26, 27]), (3, [2, 3, 4, 7, 24, 25, 26]), (4, [2, 3, 4, 8, 24, 25, 26]), (5, [2, 3, 4, 8, 24, 25, 26, 33]), (6, [4, 5]), (7, [2, 3, 4, 24, 25, 26]), (8, [2, 3, 4, 9, 10]), (9, [2, 3, 4, 9, 10, 44]), (10, [4, 5]), (11, [2, 3, 4, 9, 10, 11]), (12, [2, 3, 4, 9, 10, 11, 52, 53, 54]), (13, [2, 3, 4, 9, 10, 11, 52, 53, 54, 55]), (14, [2, 3, 4, 9, 10, 11, 13, 52, 53, 54]), (15, [2, 3, 4, 9, 10, 11, 13, 52, 53, 54, 58, 59]), (16, [2, 3, 4, 9, 10, 11, 13, 52, 53, 54, 58, 59, 60]), (17, [2, 3, 4, 9, 10, 11, 13, 14, 52, 53, 54, 58, 59]), (18, [2, 3, 4, 9, 10, 11, 13, 52, 53, 54, 58, 59]), (19, [2, 3, 4, 9, 10, 11, 13, 52, 53, 54, 58, 59]), (20, [2, 3, 4, 9, 10, 11, 52, 53, 54]), (21, [3, 4, 10, 11, 90, 91, 92]), (22, [3, 4, 10, 11, 90, 91, 92, 93]), (23, [3, 4, 10, 11, 16, 90, 91, 92]), (24, [3, 4, 10, 11, 16, 90, 91, 92, 96, 97]), (25, [3, 4, 10, 11, 16, 90, 91, 92, 96, 97, 98]), (26, [3, 4, 10, 11, 16, 17, 90, 91, 92, 96, 97]), (27, [3, 4, 10, 11, 16, 90, 91, 92, 96, 97]), (28, [3, 4, 10, 11, 16, 90, 91, 92, 96, 97]), (29, [3, 4, 10, 11, 16, 90, 91, 92, 127, 128, 129]), (30, [3, 4, 10, 11, 16, 90, 91, 92, 127, 128, 129, 130]), (31, [3, 4, 10, 11, 16, 19, 90, 91, 92, 127, 128, 129]), (32, [3, 4, 10, 11, 16, 19, 90, 91, 92, 127, 128, 129, 133, 134]), (33, [3, 4, 10, 11, 16, 19, 90, 91, 92, 127, 128, 129, 133, 134, 135]), (34, [3, 4, 10, 11, 16, 19, 21, 90, 91, 92, 127, 128, 129, 133, 134]), (35, [3, 4, 10, 11, 16, 19, 90, 91, 92, 127, 128, 129, 133, 134]), (36, [3, 4, 10, 11, 16, 19, 90, 91, 92, 127, 128, 129, 133, 134]), (37, [3, 4, 10, 11, 16, 90, 91, 92, 127, 128, 129]), (38, [3, 4, 10, 11, 90, 91, 92]), (39, [4, 5])], xl := [(0, [2, 3, 4]), (1, [2, 3, 4, 24, 25, 26]), (2, [2, 3, 4, 10, 11]), (3, [2, 3, 4, 9, 10, 11, 52, 53, 54]), (4, [2, 3, 4, 9, 10, 11, 52, 53, 54]), (5, [2, 3, 4, 9, 10, 11, 13, 52, 53, 54, 58, 59]), (6, [4, 11]), (7, [3, 4, 10, 11, 90, 91, 92]), (8, [3, 4, 10, 11, 16, 90, 91, 92]), (9, [3, 4, 10, 11, 16, 90, 91, 92, 96, 97]), (10, [3, 4, 10, 11, 90, 91, 92]), (11, [3, 4, 10, 11, 16, 90, 91, 92, 127, 128, 129]), (12, [3, 4, 10, 11, 16, 90, 91, 92, 127, 128, 129]), (13, [3, 4, 10, 11, 16, 19, 90, 91, 92, 127, 128, 129, 133, 134])], rl := [4, 5], fz := [], jp := [], lp := [(2, fun A Ko => bnd (d2 A) fun p => iterM (st2 n p.1 Ko) n p.2), (16, fun A Ko => bnd (d16 A) fun p => iterM (st16 n p.1 Ko) n p.2), (13, fun A Ko => bnd (d13 A) fun p => iterM (st13 n p.1 Ko) n p.2), (25, fun A Ko => bnd (d25 A) fun p => iterM (st25 n p.1 Ko) n p.2), (33, fun A Ko => bnd (d33 A) fun p => iterM (st33 n p.1 Ko) n p.2), (30, fun A Ko => bnd (d30 A) fun p => iterM (st30 n p.1 Ko) n p.2), (22, fun A Ko => bnd (d22 A) fun p => iterM (st22 n p.1 Ko) n p.2)] }
noncomputable def b2 : Code := (cL (cB (c2 (c1 (c2 body)))))
theorem d2_ok (A : Fr) (c : Int × (List (List Int)) × Int × (List (List Int)) × Int × (List (List Int)) × Int × (List (List Int)) × Int × (List (List Int)) × Int) (s : Int) (h : d2 A = some (c, s)) : A = F2 c s := by
  unfold d2 at h
  split at h
  · cases h; rfl
  · cases h
theorem step2 (ρ : Type) (n : Nat) (c : Int × (List (List Int)) × Int × (List (List Int)) × Int × (List (List Int)) × Int × (List (List Int)) × Int × (List (List Int)) × Int) (Ko : Exit → Fr → Option ρ) (s : Int) (nx : (Int × (List (List Int)) × Int × (List (List Int)) × Int × (List (List Int)) × Int × (List (List Int)) × Int × (List (List Int)) × Int) → (Int) → Option ρ) :
    AEO (env n) (answers ρ (used n) (used n)) (tab ρ n) b2 (F2 c s) (thenO (fun A => bnd (d2 (restr (keepOf (env n) b2) A)) fun p => nx p.1 p.2) Ko) = st2 n c Ko s (nx c) := by kernel_rfl
theorem lp2_ok {ρ : Type} (n : Nat) (hl : EntsOK Tryd.prog gl (used n)) : ∀ (A : Fr) (Ko : Exit → Fr → Option ρ) (r : ρ) (K : Exit → Fr → Prop), (bnd (d2 (restr (keepOf (env n) b2) A)) fun p => iterM (st2 n p.1 Ko) n p.2) = some r → (∀ e A, Ko e A = some r → K e A) → Gx.Sem Tryd.prog (env n) (.loop b2) A K :=
  fun A Ko r K h hk => loop_cod (P := Tryd.prog) (E := env n) (T := tab ρ n) (fun _ _ _ h => answers_ok h) F2 d2 (st2 n) d2_ok (show Cov _ (env n) (tab ρ n) b2 from ⟨trivial, ⟨⟨trivial, trivial⟩, ⟨⟨trivial, ⟨trivial, ⟨trivial, ⟨⟨trivial, trivial⟩, trivial⟩⟩⟩⟩, trivial⟩⟩⟩) (fun c Ko s nx => step2 ρ n c Ko s nx) n A Ko r K h hk
noncomputable def b16 : Code := (cL (cB (c2 (c2 (cB (c1 (c2 (c2 (cL (cB (c2 (c1 (c2 (c2 (c2 (c2 (c2 body)))))))))))))))))
theorem d16_ok (A : Fr) (c : Int × (List (List Int)) × Int × (List (List Int)) × Int × (List (List Int)) × Int × Int × (List Int) × (List (List Int)) × Int × Int × Int) (s : (List (List Int)) × Int × Int) (h : d16 A = some (c, s)) : A = F16 c s := by
  unfold d16 at h
  split at h
  · cases h; rfl
  · cases h
theorem step16 (ρ : Type) (n : Nat) (c : Int × (List (List Int)) × Int × (List (List Int)) × Int × (List (List Int)) × Int × Int × (List Int) × (List (List Int)) × Int × Int × Int) (Ko : Exit → Fr → Option ρ) (s : (List (List Int)) × Int × Int) (nx : (Int × (List (List Int)) × Int × (List (List Int)) × Int × (List (List Int)) × Int × Int × (List Int) × (List (List Int)) × Int × Int × Int) → ((List (List Int)) × Int × Int) → Option ρ) :
    AEO (env n) (answers ρ (used n) (used n)) (tab ρ n) b16 (F16 c s) (thenO (fun A => bnd (d16 (restr (keepOf (env n) b16) A)) fun p => nx p.1 p.2) Ko) = st16 n c Ko s (nx c) := by kernel_rfl
theorem lp16_ok {ρ : Type} (n : Nat) (hl : EntsOK Tryd.prog gl (used n)) : ∀ (A : Fr) (Ko : Exit → Fr → Option ρ) (r : ρ) (K : Exit → Fr → Prop), (bnd (d16 (restr (keepOf (env n) b16) A)) fun p => iterM (st16 n p.1 Ko) n p.2) = some r → (∀ e A, Ko e A = some r → K e A) → Gx.Sem Tryd.prog (env n) (.loop b16) A K :=
  fun A Ko r K h hk => loop_cod (P := Tryd.prog) (E := env n) (T := tab ρ n) (fun _ _ _ h => answers_ok h) F16 d16 (st16 n) d16_ok (show Cov _ (env n) (tab ρ n) b16 from ⟨trivial, ⟨⟨trivial, trivial⟩, ⟨⟨trivial, trivial⟩, trivial⟩⟩⟩) (fun c Ko s nx => step16 ρ n c Ko s nx) n A Ko r K h hk
noncomputable def b13 : Code := (cL (cB (c2 (c1 (c2 (c2 (c2 (c2 (c2 body)))))))))
theorem d13_ok (A : Fr) (c : Int × (List (List Int)) × Int × (List (List Int)) × Int × (List (List Int)) × Int × Int × (List (List Int)) × Int) (s : (List (List Int)) × Int × Int) (h : d13 A = some (c, s)) : A = F13 c s := by
  unfold d13 at h
  split at h
  · cases h; rfl
  · cases h
theorem step13 (ρ : Type) (n : Nat) (c : Int × (List (List Int)) × Int × (List (List Int)) × Int × (List (List Int)) × Int × Int × (List (List Int)) × Int) (Ko : Exit → Fr → Option ρ) (s : (List (List Int)) × Int × Int) (nx : (Int × (List (List Int)) × Int × (List (List Int)) × Int × (List (List Int)) × Int × Int × (List (List Int)) × Int) → ((List (List Int)) × Int × Int) → Option ρ) :
    AEO (env n) (answers ρ (used n) (used n)) (tab ρ n) b13 (F13 c s) (thenO (fun A => bnd (d13 (restr (keepOf (env n) b13) A)) fun p => nx p.1 p.2) Ko) = st13 n c Ko s (nx c) := by kernel_rfl
theorem lp13_ok {ρ : Type} (n : Nat) (hl : EntsOK Tryd.prog gl (used n)) : ∀ (A : Fr) (Ko : Exit → Fr → Option ρ) (r : ρ) (K : Exit → Fr → Prop), (bnd (d13 (restr (keepOf (env n) b13) A)) fun p => iterM (st13 n p.1 Ko) n p.2) = some r → (∀ e A, Ko e A = some r → K e A) → Gx.Sem Tryd.prog (env n) (.loop b13) A K :=
  fun A Ko r K h hk => loop_cod (P := Tryd.prog) (E := env n) (T := tab ρ n) (fun _ _ _ h => answers_ok h) F13 d13 (st13 n) d13_ok (show Cov _ (env n) (tab ρ n) b13 from ⟨trivial, ⟨⟨trivial, trivial⟩, ⟨⟨trivial, ⟨trivial, lp16_ok n hl⟩⟩, trivial⟩⟩⟩) (fun c Ko s nx => step13 ρ n c Ko s nx) n A Ko r K h hk
noncomputable def b25 : Code := (cL (cB (c2 (c1 (c2 (cB (c1 (c2 (c2 (cL (cB (c2 (c1 (c2 (c2 (c2 (c2 (c2 (c2 body)))))))))))))))))))
theorem d25_ok (A : Fr) (c : Int × (List (List Int)) × Int × (List (List Int)) × Int × (List Int) × (List (List Int)) × Int × Int × Int) (s : (List (List Int)) × Int × Int) (h : d25 A = some (c, s)) : A = F25 c s := by
  unfold d25 at h
  split at h
  · cases h; rfl
  · cases h
theorem step25 (ρ : Type) (n : Nat) (c : Int × (List (List Int)) × Int × (List (List Int)) × Int × (List Int) × (List (List Int)) × Int × Int × Int) (Ko : Exit → Fr → Option ρ) (s : (List (List Int)) × Int × Int) (nx : (Int × (List (List Int)) × Int × (List (List Int)) × Int × (List Int) × (List (List Int)) × Int × Int × Int) → ((List (List Int)) × Int × Int) → Option ρ) :
    AEO (env n) (answers ρ (used n) (used n)) (tab ρ n) b25 (F25 c s) (thenO (fun A => bnd (d25 (restr (keepOf (env n) b25) A)) fun p => nx p.1 p.2) Ko) = st25 n c Ko s (nx c) := by kernel_rfl
theorem lp25_ok {ρ : Type} (n : Nat) (hl : EntsOK Tryd.prog gl (used n)) : ∀ (A : Fr) (Ko : Exit → Fr → Option ρ) (r : ρ) (K : Exit → Fr → Prop), (bnd (d25 (restr (keepOf (env n) b25) A)) fun p => iterM (st25 n p.1 Ko) n p.2) = some r → (∀ e A, Ko e A = some r → K e A) → Gx.Sem Tryd.prog (env n) (.loop b25) A K :=
  fun A Ko r K h hk => loop_cod (P := Tryd.prog) (E := env n) (T := tab ρ n) (fun _ _ _ h => answers_ok h) F25 d25 (st25 n) d25_ok (show Cov _ (env n) (tab ρ n) b25 from ⟨trivial, ⟨⟨trivial, trivial⟩, ⟨⟨trivial, trivial⟩, trivial⟩⟩⟩) (fun c Ko s nx => step25 ρ n c Ko s nx) n A Ko r K h hk
noncomputable def b33 : Code := (cL (cB (c2 (c2 (cB (c1 (c2 (c2 (cL (cB (c2 (c2 (c2 (cB (c1 (c2 (c2 (cL (cB (c2 (c1 (c2 (c2 (c2 (c2 (c2 (c2 body)))))))))))))))))))))))))))
theorem d33_ok (A : Fr) (c : Int × (List (List Int)) × Int × (List (List Int)) × Int × (List Int) × (List Int) × (List (List Int)) × Int × Int × (List (List Int)) × Int × Int × (List Int)) (s : (List (List Int)) × Int × Int) (h : d33 A = some (c, s)) : A = F33 c s := by
  unfold d33 at h
  split at h
  · cases h; rfl
  · cases h
theorem step33 (ρ : Type) (n : Nat) (c : Int × (List (List Int)) × Int × (List (List Int)) × Int × (List Int) × (List Int) × (List (List Int)) × Int × Int × (List (List Int)) × Int × Int × (List Int)) (Ko : Exit → Fr → Option ρ) (s : (List (List Int)) × Int × Int) (nx : (Int × (List (List Int)) × Int × (List (List Int)) × Int × (List Int) × (List Int) × (List (List Int)) × Int × Int × (List (List Int)) × Int × Int × (List Int)) → ((List (List Int)) × Int × Int) → Option ρ) :
    AEO (env n) (answers ρ (used n) (used n)) (tab ρ n) b33 (F33 c s) (thenO (fun A => bnd (d33 (restr (keepOf (env n) b33) A)) fun p => nx p.1 p.2) Ko) = st33 n c Ko s (nx c) := by kernel_rfl
theorem lp33_ok {ρ : Type} (n : Nat) (hl : EntsOK Tryd.prog gl (used n)) : ∀ (A : Fr) (Ko : Exit → Fr → Option ρ) (r : ρ) (K : Exit → Fr → Prop), (bnd (d33 (restr (keepOf (env n) b33) A)) fun p => iterM (st33 n p.1 Ko) n p.2) = some r → (∀ e A, Ko e A = some r → K e A) → Gx.Sem Tryd.prog (env n) (.loop b33) A K :=
  fun A Ko r K h hk => loop_cod (P := Tryd.prog) (E := env n) (T := tab ρ n) (fun _ _ _ h => answers_ok h) F33 d33 (st33 n) d33_ok (show Cov _ (env n) (tab ρ n) b33 from ⟨trivial, ⟨⟨trivial, trivial⟩, ⟨⟨trivial, trivial⟩, trivial⟩⟩⟩) (fun c Ko s nx => step33 ρ n c Ko s nx) n A Ko r K h hk
noncomputable def b30 : Code := (cL (cB (c2 (c2 (c2 (cB (c1 (c2 (c2 (cL (cB (c2 (c1 (c2 (c2 (c2 (c2 (c2 (c2 body)))))))))))))))))))
theorem d30_ok (A : Fr) (c : Int × (List (List Int)) × Int × (List (List Int)) × Int × (List Int) × (List (List Int)) × Int × Int × (List (List Int)) × Int) (s : (List (List Int)) × Int × Int) (h : d30 A = some (c, s)) : A = F30 c s := by
  unfold d30 at h
  split at h
  · cases h; rfl
  · cases h
theorem step30 (ρ : Type) (n : Nat) (c : Int × (List (List Int)) × Int × (List (List Int)) × Int × (List Int) × (List (List Int)) × Int × Int × (List (List Int)) × Int) (Ko : Exit → Fr → Option ρ) (s : (List (List Int)) × Int × Int) (nx : (Int × (List (List Int)) × Int × (List (List Int)) × Int × (List Int) × (List (List Int)) × Int × Int × (List (List Int)) × Int) → ((List (List Int)) × Int × Int) → Option ρ) :
    AEO (env n) (answers ρ (used n) (used n)) (tab ρ n) b30 (F30 c s) (thenO (fun A => bnd (d30 (restr (keepOf (env n) b30) A)) fun p => nx p.1 p.2) Ko) = st30 n c Ko s (nx c) := by kernel_rfl
theorem lp30_ok {ρ : Type} (n : Nat) (hl : EntsOK Tryd.prog gl (used n)) : ∀ (A : Fr) (Ko : Exit → Fr → Option ρ) (r : ρ) (K : Exit → Fr → Prop), (bnd (d30 (restr (keepOf (env n) b30) A)) fun p => iterM (st30 n p.1 Ko) n p.2) = some r → (∀ e A, Ko e A = some r → K e A) → Gx.Sem Tryd.prog (env n) (.loop b30) A K :=
  fun A Ko r K h hk => loop_cod (P := Tryd.prog) (E := env n) (T := tab ρ n) (fun _ _ _ h => answers_ok h) F30 d30 (st30 n) d30_ok (show Cov _ (env n) (tab ρ n) b30 from ⟨trivial, ⟨⟨trivial, trivial⟩, ⟨⟨trivial, ⟨trivial, lp33_ok n hl⟩⟩, trivial⟩⟩⟩) (fun c Ko s nx => step30 ρ n c Ko s nx) n A Ko r K h hk
noncomputable def b22 : Code := (cL (cB (c2 (c1 (c2 (c2 (c2 (c2 (c2 (c2 body))))))))))
theorem d22_ok (A : Fr) (c : Int × (List (List Int)) × Int × (List (List Int)) × Int × (List (List Int)) × Int) (s : (List (List Int)) × Int × Int) (h : d22 A = some (c, s)) : A = F22 c s := by
  unfold d22 at h
  split at h
  · cases h; rfl
  · cases h
theorem step22 (ρ : Type) (n : Nat) (c : Int × (List (List Int)) × Int × (List (List Int)) × Int × (List (List Int)) × Int) (Ko : Exit → Fr → Option ρ) (s : (List (List Int)) × Int × Int) (nx : (Int × (List (List Int)) × Int × (List (List Int)) × Int × (List (List Int)) × Int) → ((List (List Int)) × Int × Int) → Option ρ) :
    AEO (env n) (answers ρ (used n) (used n)) (tab ρ n) b22 (F22 c s) (thenO (fun A => bnd (d22 (restr (keepOf (env n) b22) A)) fun p => nx p.1 p.2) Ko) = st22 n c Ko s (nx c) := by kernel_rfl
theorem lp22_ok {ρ : Type} (n : Nat) (hl : EntsOK Tryd.prog gl (used n)) : ∀ (A : Fr) (Ko : Exit → Fr → Option ρ) (r : ρ) (K : Exit → Fr → Prop), (bnd (d22 (restr (keepOf (env n) b22) A)) fun p => iterM (st22 n p.1 Ko) n p.2) = some r → (∀ e A, Ko e A = some r → K e A) → Gx.Sem Tryd.prog (env n) (.loop b22) A K :=
  fun A Ko r K h hk => loop_cod (P := Tryd.prog) (E := env n) (T := tab ρ n) (fun _ _ _ h => answers_ok h) F22 d22 (st22 n) d22_ok (show Cov _ (env n) (tab ρ n) b22 from ⟨trivial, ⟨⟨trivial, trivial⟩, ⟨⟨trivial, ⟨⟨trivial, lp25_ok n hl⟩, ⟨trivial, lp30_ok n hl⟩⟩⟩, trivial⟩⟩⟩) (fun c Ko s nx => step22 ρ n c Ko s nx) n A Ko r K h hk
def enc (a : Int × (List (List Int)) × Int × (List (List Int))) : List AV := [.ag [.pv (.int .i64 a.1), .ls (.rows a.2.1)], .ag [.pv (.int .i64 a.2.2.1), .ls (.rows a.2.2.2)]]
def dec : List AV → Option (Int × (List (List Int)) × Int × (List (List Int)))
  | [.ag [.pv (.int .i64 toArray0_0), .ls (.rows toArray0_1)], .ag [.pv (.int .i64 t1_0), .ls (.rows t1_1)]] => some (toArray0_0, toArray0_1, t1_0, t1_1)
  | _ => none
def emb (b : Int × (List (List Int)) × Int) : AV × List AV := (.tp [.ag [.pv (.int .i64 b.1), .sl (.rows b.2.1)], .pv (.int .i64 b.2.2)], [])
def dr : AV → List AV → Option (Int × (List (List Int)) × Int)
  | .tp [.ag [.pv (.int .i64 r0), .sl (.rows r1)], .pv (.int .i64 r2)], [] => some (r0, r1, r2)
  | _, _ => none
theorem dec_ok (vs : List AV) (a : Int × (List (List Int)) × Int × (List (List Int))) (h : dec vs = some a) : vs = enc a := by
  unfold dec at h
  split at h
  · cases h; rfl
  · cases h
theorem dr_ok (v : AV) (o : List AV) (b : Int × (List (List Int)) × Int) (h : dr v o = some b) : emb b = (v, o) := by
  unfold dr at h
  split at h
  · cases h; rfl
  · cases h
noncomputable def ent (n : Nat) : Ent := { f := 28, ms := [.lend, .lend], α := Int × (List (List Int)) × Int × (List (List Int)), β := Int × (List (List Int)) × Int, dec := dec, enc := enc, emb := emb, m := fun a => Gm.triple_Product n a.1 a.2.1 a.2.2.1 a.2.2.2, hdec := dec_ok }
theorem run (n : Nat) (a : Int × (List (List Int)) × Int × (List (List Int))) : AEO (env n) (answers (Int × (List (List Int)) × Int) (used n) (used n)) (tab (Int × (List (List Int)) × Int) n) body (frameOf (enc a) 0) (bodyO (env n) Tryd.f28.results.toList (enc a) dr) = (ent n).m a := by kernel_rfl
theorem ok (n : Nat) (hl : EntsOK Tryd.prog gl (used n)) : EntOK Tryd.prog gl (ent n) :=
  fnO_sound (P := Tryd.prog) (e := ent n) (fn := Tryd.f28) (body := body) (l := used n) (te := te) (gl := gl) (n := ⟨2, 179⟩) (cut := []) (keep := keep) (T := tab (Int × (List (List Int)) × Int) n) (dr := dr) Tryd.func28 (by kernel_rfl) (by kernel_rfl) te_ok (by kernel_rfl) (by kernel_rfl) hl (show Cov _ (env n) (tab (Int × (List (List Int)) × Int) n) body from ⟨trivial, ⟨⟨trivial, lp2_ok n hl⟩, ⟨trivial, ⟨⟨trivial, ⟨⟨trivial, trivial⟩, trivial⟩⟩, ⟨trivial, ⟨⟨trivial, lp13_ok n hl⟩, ⟨⟨trivial, lp22_ok n hl⟩, ⟨trivial, trivial⟩⟩⟩⟩⟩⟩⟩⟩) dr_ok (fun a => ⟨rfl, rfl⟩) (run n)
theorem all_ok (n : Nat) : EntOK Tryd.prog gl (ent n) := ok n ⟨W_triple_Check.all_ok n, W_triple_lister_add.all_ok n, W_triple_system_design.all_ok n, trivial⟩
end W_triple_Product
namespace W_ref1_Ints
noncomputable def body : Code := Tryd.f99.body.getD .skip
def keep : List (Nat × List Nat) := [(4, [0, 1, 5])]
noncomputable def used (_n : Nat) : List Ent := []
noncomputable def env (n : Nat) : Env := envOf te gl (used n) ⟨4, 26⟩ [] keep
def F4 (c : (List Int) × (List Int)) (s : Int) : Fr := [(0, .ls (.ints .i64 c.1)), (1, .ls (.ints .i64 c.2)), (5, .pv (.int .i64 s))]
def d4 : Fr → Option (((List Int) × (List Int)) × (Int))
  | [(0, .ls (.ints .i64 a0)), (1, .ls (.ints .i64 b1)), (5, .pv (.int .i64 i5))] => some ((a0, b1), i5)
  | _ => none
def st4 {ρ : Type} (n : Nat) (c : (List Int) × (List Int)) (Ko : Exit → Fr → Option ρ) (s : Int) (nx : Int → Option ρ) : Option ρ :=
  Gm.ref1_Ints_s4 n c.1 c.2 s nx (Ko .ret [(4, .pv (.bool false))]) (Ko (.exit 0) [])
noncomputable def tab (ρ : Type) (n : Nat) : Tab ρ := { live := [(0, [0, 1]), (1, [0, 1, 10]), (2, [4]), (3, [0, 1, 5]), (4, [0, 1, 5, 14]), (5, [0, 1, 5]), (6, [0, 1, 5, 25]), (7, [4]), (8, [4])], xl := [(0, []), (1, [0, 1, 5])], rl := [4], fz := [], jp := [], lp := [(4, fun A Ko => bnd (d4 A) fun p => iterM (st4 n p.1 Ko) n p.2)] }
noncomputable def b4 : Code := (cL (cB (c2 (c1 (c2 (c2 body))))))
theorem d4_ok (A : Fr) (c : (List Int) × (List Int)) (s : Int) (h : d4 A = some (c, s)) : A = F4 c s := by
  unfold d4 at h
  split at h
  · cases h; rfl
  · cases h
theorem step4 (ρ : Type) (n : Nat) (c : (List Int) × (List Int)) (Ko : Exit → Fr → Option ρ) (s : Int) (nx : ((List Int) × (List Int)) → (Int) → Option ρ) :
    AEO (env n) (answers ρ (used n) (used n)) (tab ρ n) b4 (F4 c s) (thenO (fun A => bnd (d4 (restr (keepOf (env n) b4) A)) fun p => nx p.1 p.2) Ko) = st4 n c Ko s (nx c) := by kernel_rfl
theorem lp4_ok {ρ : Type} (n : Nat) (hl : EntsOK Tryd.prog gl (used n)) : ∀ (A : Fr) (Ko : Exit → Fr → Option ρ) (r : ρ) (K : Exit → Fr → Prop), (bnd (d4 (restr (keepOf (env n) b4) A)) fun p => iterM (st4 n p.1 Ko) n p.2) = some r → (∀ e A, Ko e A = some r → K e A) → Gx.Sem Tryd.prog (env n) (.loop b4) A K :=
  fun A Ko r K h hk => loop_cod (P := Tryd.prog) (E := env n) (T := tab ρ n) (fun _ _ _ h => answers_ok h) F4 d4 (st4 n) d4_ok (show Cov _ (env n) (tab ρ n) b4 from ⟨⟨trivial, ⟨trivial, trivial⟩⟩, ⟨⟨trivial, ⟨⟨trivial, trivial⟩, trivial⟩⟩, trivial⟩⟩) (fun c Ko s nx => step4 ρ n c Ko s nx) n A Ko r K h hk
def enc (a : (List Int) × (List Int)) : List AV := [.ls (.ints .i64 a.1), .ls (.ints .i64 a.2)]
def dec : List AV → Option ((List Int) × (List Int))
  | [.ls (.ints .i64 a0), .ls (.ints .i64 b1)] => some (a0, b1)
  | _ => none
def emb (b : Bool) : AV × List AV := (.pv (.bool b), [])
def dr : AV → List AV → Option (Bool)
  | .pv (.bool r0), [] => some r0
  | _, _ => none
theorem dec_ok (vs : List AV) (a : (List Int) × (List Int)) (h : dec vs = some a) : vs = enc a := by
  unfold dec at h
  split at h
  · cases h; rfl
  · cases h
theorem dr_ok (v : AV) (o : List AV) (b : Bool) (h : dr v o = some b) : emb b = (v, o) := by
  unfold dr at h
  split at h
  · cases h; rfl
  · cases h
noncomputable def ent (n : Nat) : Ent := { f := 99, ms := [.lend, .lend], α := (List Int) × (List Int), β := Bool, dec := dec, enc := enc, emb := emb, m := fun a => Gm.ref1_Ints n a.1 a.2, hdec := dec_ok }
theorem run (n : Nat) (a : (List Int) × (List Int)) : AEO (env n) (answers (Bool) (used n) (used n)) (tab (Bool) n) body (frameOf (enc a) 0) (bodyO (env n) Tryd.f99.results.toList (enc a) dr) = (ent n).m a := by kernel_rfl
theorem ok (n : Nat) (hl : EntsOK Tryd.prog gl (used n)) : EntOK Tryd.prog gl (ent n) :=
  fnO_sound (P := Tryd.prog) (e := ent n) (fn := Tryd.f99) (body := body) (l := used n) (te := te) (gl := gl) (n := ⟨4, 26⟩) (cut := []) (keep := keep) (T := tab (Bool) n) (dr := dr) Tryd.func99 (by kernel_rfl) (by kernel_rfl) te_ok (by kernel_rfl) (by kernel_rfl) hl (show Cov _ (env n) (tab (Bool) n) body from ⟨trivial, ⟨⟨trivial, ⟨⟨trivial, trivial⟩, trivial⟩⟩, ⟨⟨trivial, lp4_ok n hl⟩, ⟨trivial, trivial⟩⟩⟩⟩) dr_ok (fun a => ⟨rfl, rfl⟩) (run n)
theorem all_ok (n : Nat) : EntOK Tryd.prog gl (ent n) := ok n trivial
end W_ref1_Ints
namespace W_ref1_Lists
noncomputable def body : Code := Tryd.f54.body.getD .skip
def keep : List (Nat × List Nat) := [(4, [0, 1, 5])]
noncomputable def used (n : Nat) : List Ent := [W_ref1_Ints.ent n]
noncomputable def env (n : Nat) : Env := envOf te gl (used n) ⟨4, 29⟩ [] keep
def F4 (c : (List (List Int)) × (List (List Int))) (s : Int) : Fr := [(0, .ls (.rows c.1)), (1, .ls (.rows c.2)), (5, .pv (.int .i64 s))]
def d4 : Fr → Option (((List (List Int)) × (List (List Int))) × (Int))
  | [(0, .ls (.rows a0)), (1, .ls (.rows b1)), (5, .pv (.int .i64 i5))] => some ((a0, b1), i5)
  | _ => none
def st4 {ρ : Type} (n : Nat) (c : (List (List Int)) × (List (List Int))) (Ko : Exit → Fr → Option ρ) (s : Int) (nx : Int → Option ρ) : Option ρ :=
  Gm.ref1_Lists_s4 n c.1 c.2 s nx (Ko .ret [(4, .pv (.bool false))]) (Ko (.exit 0) [])
noncomputable def tab (ρ : Type) (n : Nat) : Tab ρ := { live := [(0, [0, 1]), (1, [0, 1, 11]), (2, [4]), (3, [0, 1, 5]), (4, [0, 1, 5, 15]), (5, [0, 1, 5]), (6, [0, 1, 5, 6]), (7, [0, 1, 5, 28]), (8, [4]), (9, [4])], xl := [(0, []), (1, [0, 1, 5])], rl := [4], fz := [], jp := [], lp := [(4, fun A Ko => bnd (d4 A) fun p => iterM (st4 n p.1 Ko) n p.2)] }
noncomputable def b4 : Code := (cL (cB (c2 (c1 (c2 (c2 body))))))
theorem d4_ok (A : Fr) (c : (List (List Int)) × (List (List Int))) (s : Int) (h : d4 A = some (c, s)) : A = F4 c s := by
  unfold d4 at h
  split at h
  · cases h; rfl
  · cases h
theorem step4 (ρ : Type) (n : Nat) (c : (List (List Int)) × (List (List Int))) (Ko : Exit → Fr → Option ρ) (s : Int) (nx : ((List (List Int)) × (List (List Int))) → (Int) → Option ρ) :
    AEO (env n) (answers ρ (used n) (used n)) (tab ρ n) b4 (F4 c s) (thenO (fun A => bnd (d4 (restr (keepOf (env n) b4) A)) fun p => nx p.1 p.2) Ko) = st4 n c Ko s (nx c) := by kernel_rfl
theorem lp4_ok {ρ : Type} (n : Nat) (hl : EntsOK Tryd.prog gl (used n)) : ∀ (A : Fr) (Ko : Exit → Fr → Option ρ) (r : ρ) (K : Exit → Fr → Prop), (bnd (d4 (restr (keepOf (env n) b4) A)) fun p => iterM (st4 n p.1 Ko) n p.2) = some r → (∀ e A, Ko e A = some r → K e A) → Gx.Sem Tryd.prog (env n) (.loop b4) A K :=
  fun A Ko r K h hk => loop_cod (P := Tryd.prog) (E := env n) (T := tab ρ n) (fun _ _ _ h => answers_ok h) F4 d4 (st4 n) d4_ok (show Cov _ (env n) (tab ρ n) b4 from ⟨⟨trivial, ⟨trivial, trivial⟩⟩, ⟨⟨trivial, ⟨trivial, ⟨⟨trivial, trivial⟩, trivial⟩⟩⟩, trivial⟩⟩) (fun c Ko s nx => step4 ρ n c Ko s nx) n A Ko r K h hk
def enc (a : (List (List Int)) × (List (List Int))) : List AV := [.ls (.rows a.1), .ls (.rows a.2)]
def dec : List AV → Option ((List (List Int)) × (List (List Int)))
  | [.ls (.rows a0), .ls (.rows b1)] => some (a0, b1)
  | _ => none
def emb (b : Bool) : AV × List AV := (.pv (.bool b), [])
def dr : AV → List AV → Option (Bool)
  | .pv (.bool r0), [] => some r0
  | _, _ => none
theorem dec_ok (vs : List AV) (a : (List (List Int)) × (List (List Int))) (h : dec vs = some a) : vs = enc a := by
  unfold dec at h
  split at h
  · cases h; rfl
  · cases h
theorem dr_ok (v : AV) (o : List AV) (b : Bool) (h : dr v o = some b) : emb b = (v, o) := by
  unfold dr at h
  split at h
  · cases h; rfl
  · cases h
noncomputable def ent (n : Nat) : Ent := { f := 54, ms := [.lend, .lend], α := (List (List Int)) × (List (List Int)), β := Bool, dec := dec, enc := enc, emb := emb, m := fun a => Gm.ref1_Lists n a.1 a.2, hdec := dec_ok }
theorem run (n : Nat) (a : (List (List Int)) × (List (List Int))) : AEO (env n) (answers (Bool) (used n) (used n)) (tab (Bool) n) body (frameOf (enc a) 0) (bodyO (env n) Tryd.f54.results.toList (enc a) dr) = (ent n).m a := by kernel_rfl
theorem ok (n : Nat) (hl : EntsOK Tryd.prog gl (used n)) : EntOK Tryd.prog gl (ent n) :=
  fnO_sound (P := Tryd.prog) (e := ent n) (fn := Tryd.f54) (body := body) (l := used n) (te := te) (gl := gl) (n := ⟨4, 29⟩) (cut := []) (keep := keep) (T := tab (Bool) n) (dr := dr) Tryd.func54 (by kernel_rfl) (by kernel_rfl) te_ok (by kernel_rfl) (by kernel_rfl) hl (show Cov _ (env n) (tab (Bool) n) body from ⟨trivial, ⟨⟨trivial, ⟨⟨trivial, trivial⟩, trivial⟩⟩, ⟨⟨trivial, lp4_ok n hl⟩, ⟨trivial, trivial⟩⟩⟩⟩) dr_ok (fun a => ⟨rfl, rfl⟩) (run n)
theorem all_ok (n : Nat) : EntOK Tryd.prog gl (ent n) := ok n ⟨W_ref1_Ints.all_ok n, trivial⟩
end W_ref1_Lists
namespace W_ref2_Designs
noncomputable def body : Code := Tryd.f29.body.getD .skip
def keep : List (Nat × List Nat) := []
noncomputable def used (n : Nat) : List Ent := [W_ref1_Lists.ent n]
noncomputable def env (n : Nat) : Env := envOf te gl (used n) ⟨2, 19⟩ [] keep
noncomputable def tab (ρ : Type) (_n : Nat) : Tab ρ := { live := [(0, [2, 3]), (1, [2, 3, 5]), (2, [4])], xl := [], rl := [4], fz := [], jp := [], lp := [] }
def enc (a : Int × (List (List Int)) × Int × (List (List Int))) : List AV := [.ag [.pv (.int .i64 a.1), .ls (.rows a.2.1)], .ag [.pv (.int .i64 a.2.2.1), .ls (.rows a.2.2.2)]]
def dec : List AV → Option (Int × (List (List Int)) × Int × (List (List Int)))
  | [.ag [.pv (.int .i64 a0_0), .ls (.rows a0_1)], .ag [.pv (.int .i64 b1_0), .ls (.rows b1_1)]] => some (a0_0, a0_1, b1_0, b1_1)
  | _ => none
def emb (b : Bool) : AV × List AV := (.pv (.bool b), [])
def dr : AV → List AV → Option (Bool)
  | .pv (.bool r0), [] => some r0
  | _, _ => none
theorem dec_ok (vs : List AV) (a : Int × (List (List Int)) × Int × (List (List Int))) (h : dec vs = some a) : vs = enc a := by
  unfold dec at h
  split at h
  · cases h; rfl
  · cases h
theorem dr_ok (v : AV) (o : List AV) (b : Bool) (h : dr v o = some b) : emb b = (v, o) := by
  unfold dr at h
  split at h
  · cases h; rfl
  · cases h
noncomputable def ent (n : Nat) : Ent := { f := 29, ms := [.lend, .lend], α := Int × (List (List Int)) × Int × (List (List Int)), β := Bool, dec := dec, enc := enc, emb := emb, m := fun a => Gm.ref2_Designs n a.1 a.2.1 a.2.2.1 a.2.2.2, hdec := dec_ok }
theorem run (n : Nat) (a : Int × (List (List Int)) × Int × (List (List Int))) : AEO (env n) (answers (Bool) (used n) (used n)) (tab (Bool) n) body (frameOf (enc a) 0) (bodyO (env n) Tryd.f29.results.toList (enc a) dr) = (ent n).m a := by kernel_rfl
theorem ok (n : Nat) (hl : EntsOK Tryd.prog gl (used n)) : EntOK Tryd.prog gl (ent n) :=
  fnO_sound (P := Tryd.prog) (e := ent n) (fn := Tryd.f29) (body := body) (l := used n) (te := te) (gl := gl) (n := ⟨2, 19⟩) (cut := []) (keep := keep) (T := tab (Bool) n) (dr := dr) Tryd.func29 (by kernel_rfl) (by kernel_rfl) te_ok (by kernel_rfl) (by kernel_rfl) hl (show Cov _ (env n) (tab (Bool) n) body from ⟨trivial, ⟨trivial, ⟨trivial, trivial⟩⟩⟩) dr_ok (fun a => ⟨rfl, rfl⟩) (run n)
theorem all_ok (n : Nat) : EntOK Tryd.prog gl (ent n) := ok n ⟨W_ref1_Lists.all_ok n, trivial⟩
end W_ref2_Designs
namespace W_ref2_Sorted
noncomputable def body : Code := Tryd.f107.body.getD .skip
def keep : List (Nat × List Nat) := [(3, [0, 3, 4]), (7, [0, 3, 4, 5])]
noncomputable def used (_n : Nat) : List Ent := []
noncomputable def env (n : Nat) : Env := envOf te gl (used n) ⟨2, 54⟩ [] keep
def F7 (c : (List Int) × Int) (s : (List Int) × Int) : Fr := [(0, .ls (.ints .i64 c.1)), (3, .ow 3 (.ints .i64 s.1)), (4, .pv (.int .i64 c.2)), (5, .pv (.int .i64 s.2))]
def d7 : Fr → Option (((List Int) × Int) × ((List Int) × Int))
  | [(0, .ls (.ints .i64 l0)), (3, .ow 3 (.ints .i64 out3)), (4, .pv (.int .i64 i4)), (5, .pv (.int .i64 k_5))] => some ((l0, i4), (out3, k_5))
  | _ => none
def st7 {ρ : Type} (n : Nat) (c : (List Int) × Int) (Ko : Exit → Fr → Option ρ) (s : (List Int) × Int) (nx : ((List Int) × Int) → Option ρ) : Option ρ :=
  Gm.ref2_Sorted_s7 n c.1 c.2 s.1 s.2 (fun a0 a1 => nx (a0, a1)) (fun (y0 : List Int) => Ko (.exit 2) [(0, .ls (.ints .i64 c.1)), (3, .ow 3 (.ints .i64 y0)), (4, .pv (.int .i64 c.2))])
def F3 (c : List Int) (s : (List Int) × Int) : Fr := [(0, .ls (.ints .i64 c)), (3, .ow 3 (.ints .i64 s.1)), (4, .pv (.int .i64 s.2))]
def d3 : Fr → Option ((List Int) × ((List Int) × Int))
  | [(0, .ls (.ints .i64 l0)), (3, .ow 3 (.ints .i64 out3)), (4, .pv (.int .i64 i4))] => some (l0, (out3, i4))
  | _ => none
def st3 {ρ : Type} (n : Nat) (c : List Int) (Ko : Exit → Fr → Option ρ) (s : (List Int) × Int) (nx : ((List Int) × Int) → Option ρ) : Option ρ :=
  Gm.ref2_Sorted_s3 n c s.1 s.2 (fun a0 a1 => nx (a0, a1)) (fun (y0 : List Int) => Ko (.exit 0) [(3, .ow 3 (.ints .i64 y0))])
noncomputable def tab (ρ : Type) (n : Nat) : Tab ρ := { live := [(0, [0]), (1, [0, 3]), (2, [0, 3, 4]), (3, [0, 3, 4, 9]), (4, [0, 3, 4]), (5, [0, 3, 4, 5]), (6, [0, 3, 4, 5]), (7, [0, 3, 4, 5, 34]), (8, [0, 3, 4, 5]), (9, [0, 3, 4, 5]), (10, [2, 3])], xl := [(0, [3]), (1, [0, 3, 4]), (2, [0, 3, 4]), (3, [0, 3, 4, 5])], rl := [2, 3], fz := [], jp := [], lp := [(7, fun A Ko => bnd (d7 A) fun p => iterM (st7 n p.1 Ko) n p.2), (3, fun A Ko => bnd (d3 A) fun p => iterM (st3 n p.1 Ko) n p.2)] }
noncomputable def b7 : Code := (cL (cB (c2 (c2 (cB (c1 (c2 (cL (cB (c2 (c1 (c2 (c2 body)))))))))))))
theorem d7_ok (A : Fr) (c : (List Int) × Int) (s : (List Int) × Int) (h : d7 A = some (c, s)) : A = F7 c s := by
  unfold d7 at h
  split at h
  · cases h; rfl
  · cases h
theorem step7 (ρ : Type) (n : Nat) (c : (List Int) × Int) (Ko : Exit → Fr → Option ρ) (s : (List Int) × Int) (nx : ((List Int) × Int) → ((List Int) × Int) → Option ρ) :
    AEO (env n) (answers ρ (used n) (used n)) (tab ρ n) b7 (F7 c s) (thenO (fun A => bnd (d7 (restr (keepOf (env n) b7) A)) fun p => nx p.1 p.2) Ko) = st7 n c Ko s (nx c) := by kernel_rfl
theorem lp7_ok {ρ : Type} (n : Nat) (hl : EntsOK Tryd.prog gl (used n)) : ∀ (A : Fr) (Ko : Exit → Fr → Option ρ) (r : ρ) (K : Exit → Fr → Prop), (bnd (d7 (restr (keepOf (env n) b7) A)) fun p => iterM (st7 n p.1 Ko) n p.2) = some r → (∀ e A, Ko e A = some r → K e A) → Gx.Sem Tryd.prog (env n) (.loop b7) A K :=
  fun A Ko r K h hk => loop_cod (P := Tryd.prog) (E := env n) (T := tab ρ n) (fun _ _ _ h => answers_ok h) F7 d7 (st7 n) d7_ok (show Cov _ (env n) (tab ρ n) b7 from ⟨⟨trivial, ⟨trivial, trivial⟩⟩, ⟨trivial, trivial⟩⟩) (fun c Ko s nx => step7 ρ n c Ko s nx) n A Ko r K h hk
noncomputable def b3 : Code := (cL (cB (c2 (c1 (c2 (c2 body))))))
theorem d3_ok (A : Fr) (c : List Int) (s : (List Int) × Int) (h : d3 A = some (c, s)) : A = F3 c s := by
  unfold d3 at h
  split at h
  · cases h; rfl
  · cases h
theorem step3 (ρ : Type) (n : Nat) (c : List Int) (Ko : Exit → Fr → Option ρ) (s : (List Int) × Int) (nx : (List Int) → ((List Int) × Int) → Option ρ) :
    AEO (env n) (answers ρ (used n) (used n)) (tab ρ n) b3 (F3 c s) (thenO (fun A => bnd (d3 (restr (keepOf (env n) b3) A)) fun p => nx p.1 p.2) Ko) = st3 n c Ko s (nx c) := by kernel_rfl
theorem lp3_ok {ρ : Type} (n : Nat) (hl : EntsOK Tryd.prog gl (used n)) : ∀ (A : Fr) (Ko : Exit → Fr → Option ρ) (r : ρ) (K : Exit → Fr → Prop), (bnd (d3 (restr (keepOf (env n) b3) A)) fun p => iterM (st3 n p.1 Ko) n p.2) = some r → (∀ e A, Ko e A = some r → K e A) → Gx.Sem Tryd.prog (env n) (.loop b3) A K :=
  fun A Ko r K h hk => loop_cod (P := Tryd.prog) (E := env n) (T := tab ρ n) (fun _ _ _ h => answers_ok h) F3 d3 (st3 n) d3_ok (show Cov _ (env n) (tab ρ n) b3 from ⟨⟨trivial, ⟨trivial, trivial⟩⟩, ⟨⟨trivial, ⟨trivial, lp7_ok n hl⟩⟩, trivial⟩⟩) (fun c Ko s nx => step3 ρ n c Ko s nx) n A Ko r K h hk
def enc (a : List Int) : List AV := [.ls (.ints .i64 a)]
def dec : List AV → Option (List Int)
  | [.ls (.ints .i64 l0)] => some l0
  | _ => none
def emb (b : List Int) : AV × List AV := (.ow 3 (.ints .i64 b), [])
def dr : AV → List AV → Option (List Int)
  | .ow 3 (.ints .i64 r0), [] => some r0
  | _, _ => none
theorem dec_ok (vs : List AV) (a : List Int) (h : dec vs = some a) : vs = enc a := by
  unfold dec at h
  split at h
  · cases h; rfl
  · cases h
theorem dr_ok (v : AV) (o : List AV) (b : List Int) (h : dr v o = some b) : emb b = (v, o) := by
  unfold dr at h
  split at h
  · cases h; rfl
  · cases h
noncomputable def ent (n : Nat) : Ent := { f := 107, ms := [.lend], α := List Int, β := List Int, dec := dec, enc := enc, emb := emb, m := fun a => Gm.ref2_Sorted n a, hdec := dec_ok }
theorem run (n : Nat) (a : List Int) : AEO (env n) (answers (List Int) (used n) (used n)) (tab (List Int) n) body (frameOf (enc a) 0) (bodyO (env n) Tryd.f107.results.toList (enc a) dr) = (ent n).m a := by kernel_rfl
theorem ok (n : Nat) (hl : EntsOK Tryd.prog gl (used n)) : EntOK Tryd.prog gl (ent n) :=
  fnO_sound (P := Tryd.prog) (e := ent n) (fn := Tryd.f107) (body := body) (l := used n) (te := te) (gl := gl) (n := ⟨2, 54⟩) (cut := []) (keep := keep) (T := tab (List Int) n) (dr := dr) Tryd.func107 (by kernel_rfl) (by kernel_rfl) te_ok (by kernel_rfl) (by kernel_rfl) hl (show Cov _ (env n) (tab (List Int) n) body from ⟨trivial, ⟨trivial, ⟨⟨trivial, lp3_ok n hl⟩, ⟨trivial, trivial⟩⟩⟩⟩) dr_ok (fun a => ⟨rfl, rfl⟩) (run n)
theorem all_ok (n : Nat) : EntOK Tryd.prog gl (ent n) := ok n trivial
end W_ref2_Sorted
namespace W_ref2_Ahead
noncomputable def body : Code := Tryd.f108.body.getD .skip
def keep : List (Nat × List Nat) := [(2, [0, 1, 5])]
noncomputable def used (_n : Nat) : List Ent := []
noncomputable def env (n : Nat) : Env := envOf te gl (used n) ⟨4, 41⟩ [] keep
def F2 (c : (List Int) × (List Int)) (s : Int) : Fr := [(0, .ls (.ints .i64 c.1)), (1, .ls (.ints .i64 c.2)), (5, .pv (.int .i64 s))]
def d2 : Fr → Option (((List Int) × (List Int)) × (Int))
  | [(0, .ls (.ints .i64 a0)), (1, .ls (.ints .i64 b1)), (5, .pv (.int .i64 i5))] => some ((a0, b1), i5)
  | _ => none
def st2 {ρ : Type} (n : Nat) (c : (List Int) × (List Int)) (Ko : Exit → Fr → Option ρ) (s : Int) (nx : Int → Option ρ) : Option ρ :=
  Gm.ref2_Ahead_s2 n c.1 c.2 s nx (fun (y0 : Bool) => Ko .ret [(4, .pv (.bool y0))]) (Ko (.exit 0) [(0, .ls (.ints .i64 c.1)), (1, .ls (.ints .i64 c.2))])
noncomputable def tab (ρ : Type) (n : Nat) : Tab ρ := { live := [(0, [0, 1]), (1, [0, 1, 5]), (2, [0, 1, 5, 15]), (3, [0, 1, 5]), (4, [0, 1, 5, 26]), (5, [4]), (6, [4])], xl := [(0, [0, 1]), (1, [0, 1, 5])], rl := [4], fz := [], jp := [], lp := [(2, fun A Ko => bnd (d2 A) fun p => iterM (st2 n p.1 Ko) n p.2)] }
noncomputable def b2 : Code := (cL (cB (c2 (c1 (c2 body)))))
theorem d2_ok (A : Fr) (c : (List Int) × (List Int)) (s : Int) (h : d2 A = some (c, s)) : A = F2 c s := by
  unfold d2 at h
  split at h
  · cases h; rfl
  · cases h
theorem step2 (ρ : Type) (n : Nat) (c : (List Int) × (List Int)) (Ko : Exit → Fr → Option ρ) (s : Int) (nx : ((List Int) × (List Int)) → (Int) → Option ρ) :
    AEO (env n) (answers ρ (used n) (used n)) (tab ρ n) b2 (F2 c s) (thenO (fun A => bnd (d2 (restr (keepOf (env n) b2) A)) fun p => nx p.1 p.2) Ko) = st2 n c Ko s (nx c) := by kernel_rfl
theorem lp2_ok {ρ : Type} (n : Nat) (hl : EntsOK Tryd.prog gl (used n)) : ∀ (A : Fr) (Ko : Exit → Fr → Option ρ) (r : ρ) (K : Exit → Fr → Prop), (bnd (d2 (restr (keepOf (env n) b2) A)) fun p => iterM (st2 n p.1 Ko) n p.2) = some r → (∀ e A, Ko e A = some r → K e A) → Gx.Sem Tryd.prog (env n) (.loop b2) A K :=
  fun A Ko r K h hk => loop_cod (P := Tryd.prog) (E := env n) (T := tab ρ n) (fun _ _ _ h => answers_ok h) F2 d2 (st2 n) d2_ok (show Cov _ (env n) (tab ρ n) b2 from ⟨⟨trivial, ⟨trivial, trivial⟩⟩, ⟨⟨trivial, ⟨⟨trivial, trivial⟩, trivial⟩⟩, trivial⟩⟩) (fun c Ko s nx => step2 ρ n c Ko s nx) n A Ko r K h hk
def enc (a : (List Int) × (List Int)) : List AV := [.ls (.ints .i64 a.1), .ls (.ints .i64 a.2)]
def dec : List AV → Option ((List Int) × (List Int))
  | [.ls (.ints .i64 a0), .ls (.ints .i64 b1)] => some (a0, b1)
  | _ => none
def emb (b : Bool) : AV × List AV := (.pv (.bool b), [])
def dr : AV → List AV → Option (Bool)
  | .pv (.bool r0), [] => some r0
  | _, _ => none
theorem dec_ok (vs : List AV) (a : (List Int) × (List Int)) (h : dec vs = some a) : vs = enc a := by
  unfold dec at h
  split at h
  · cases h; rfl
  · cases h
theorem dr_ok (v : AV) (o : List AV) (b : Bool) (h : dr v o = some b) : emb b = (v, o) := by
  unfold dr at h
  split at h
  · cases h; rfl
  · cases h
noncomputable def ent (n : Nat) : Ent := { f := 108, ms := [.lend, .lend], α := (List Int) × (List Int), β := Bool, dec := dec, enc := enc, emb := emb, m := fun a => Gm.ref2_Ahead n a.1 a.2, hdec := dec_ok }
theorem run (n : Nat) (a : (List Int) × (List Int)) : AEO (env n) (answers (Bool) (used n) (used n)) (tab (Bool) n) body (frameOf (enc a) 0) (bodyO (env n) Tryd.f108.results.toList (enc a) dr) = (ent n).m a := by kernel_rfl
theorem ok (n : Nat) (hl : EntsOK Tryd.prog gl (used n)) : EntOK Tryd.prog gl (ent n) :=
  fnO_sound (P := Tryd.prog) (e := ent n) (fn := Tryd.f108) (body := body) (l := used n) (te := te) (gl := gl) (n := ⟨4, 41⟩) (cut := []) (keep := keep) (T := tab (Bool) n) (dr := dr) Tryd.func108 (by kernel_rfl) (by kernel_rfl) te_ok (by kernel_rfl) (by kernel_rfl) hl (show Cov _ (env n) (tab (Bool) n) body from ⟨trivial, ⟨⟨trivial, lp2_ok n hl⟩, ⟨trivial, trivial⟩⟩⟩) dr_ok (fun a => ⟨rfl, rfl⟩) (run n)
theorem all_ok (n : Nat) : EntOK Tryd.prog gl (ent n) := ok n trivial
end W_ref2_Ahead
namespace W_ref2_InOrder
noncomputable def body : Code := Tryd.f73.body.getD .skip
def keep : List (Nat × List Nat) := [(3, [0, 3, 4]), (8, [0, 3, 4, 6])]
noncomputable def used (n : Nat) : List Ent := [W_ref2_Sorted.ent n, W_ref2_Ahead.ent n]
noncomputable def env (n : Nat) : Env := envOf te gl (used n) ⟨2, 58⟩ [] keep
def F8 (c : (List (List Int)) × Int) (s : (List (List Int)) × Int) : Fr := [(0, .ls (.rows c.1)), (3, .ow 22 (.rows s.1)), (4, .pv (.int .i64 c.2)), (6, .pv (.int .i64 s.2))]
def d8 : Fr → Option (((List (List Int)) × Int) × ((List (List Int)) × Int))
  | [(0, .ls (.rows l0)), (3, .ow 22 (.rows out3)), (4, .pv (.int .i64 i4)), (6, .pv (.int .i64 k_6))] => some ((l0, i4), (out3, k_6))
  | _ => none
def st8 {ρ : Type} (n : Nat) (c : (List (List Int)) × Int) (Ko : Exit → Fr → Option ρ) (s : (List (List Int)) × Int) (nx : ((List (List Int)) × Int) → Option ρ) : Option ρ :=
  Gm.ref2_InOrder_s8 n c.1 c.2 s.1 s.2 (fun a0 a1 => nx (a0, a1)) (fun (y0 : List (List Int)) => Ko (.exit 2) [(0, .ls (.rows c.1)), (3, .ow 22 (.rows y0)), (4, .pv (.int .i64 c.2))])
def F3 (c : List (List Int)) (s : (List (List Int)) × Int) : Fr := [(0, .ls (.rows c)), (3, .ow 22 (.rows s.1)), (4, .pv (.int .i64 s.2))]
def d3 : Fr → Option ((List (List Int)) × ((List (List Int)) × Int))
  | [(0, .ls (.rows l0)), (3, .ow 22 (.rows out3)), (4, .pv (.int .i64 i4))] => some (l0, (out3, i4))
  | _ => none
def st3 {ρ : Type} (n : Nat) (c : List (List Int)) (Ko : Exit → Fr → Option ρ) (s : (List (List Int)) × Int) (nx : ((List (List Int)) × Int) → Option ρ) : Option ρ :=
  Gm.ref2_InOrder_s3 n c s.1 s.2 (fun a0 a1 => nx (a0, a1)) (fun (y0 : List (List Int)) => Ko (.exit 0) [(3, .ow 22 (.rows y0))])
noncomputable def tab (ρ : Type) (n : Nat) : Tab ρ := { live := [(0, [0]), (1, [0, 3]), (2, [0, 3, 4]), (3, [0, 3, 4, 11]), (4, [0, 3, 4]), (5, [0, 3, 4, 5]), (6, [0, 3, 4, 5, 6]), (7, [0, 3, 4, 6]), (8, [0, 3, 4, 6, 26]), (9, [0, 3, 4, 6, 7]), (10, [0, 3, 4, 6, 38]), (11, [0, 3, 4, 6]), (12, [0, 3, 4, 6]), (13, [2, 3])], xl := [(0, [3]), (1, [0, 3, 4]), (2, [0, 3, 4]), (3, [0, 3, 4, 6])], rl := [2, 3], fz := [], jp := [], lp := [(8, fun A Ko => bnd (d8 A) fun p => iterM (st8 n p.1 Ko) n p.2), (3, fun A Ko => bnd (d3 A) fun p => iterM (st3 n p.1 Ko) n p.2)] }
noncomputable def b8 : Code := (cL (cB (c2 (c2 (c2 (cB (c1 (c2 (cL (cB (c2 (c1 (c2 (c2 body))))))))))))))
theorem d8_ok (A : Fr) (c : (List (List Int)) × Int) (s : (List (List Int)) × Int) (h : d8 A = some (c, s)) : A = F8 c s := by
  unfold d8 at h
  split at h
  · cases h; rfl
  · cases h
theorem step8 (ρ : Type) (n : Nat) (c : (List (List Int)) × Int) (Ko : Exit → Fr → Option ρ) (s : (List (List Int)) × Int) (nx : ((List (List Int)) × Int) → ((List (List Int)) × Int) → Option ρ) :
    AEO (env n) (answers ρ (used n) (used n)) (tab ρ n) b8 (F8 c s) (thenO (fun A => bnd (d8 (restr (keepOf (env n) b8) A)) fun p => nx p.1 p.2) Ko) = st8 n c Ko s (nx c) := by kernel_rfl
theorem lp8_ok {ρ : Type} (n : Nat) (hl : EntsOK Tryd.prog gl (used n)) : ∀ (A : Fr) (Ko : Exit → Fr → Option ρ) (r : ρ) (K : Exit → Fr → Prop), (bnd (d8 (restr (keepOf (env n) b8) A)) fun p => iterM (st8 n p.1 Ko) n p.2) = some r → (∀ e A, Ko e A = some r → K e A) → Gx.Sem Tryd.prog (env n) (.loop b8) A K :=
  fun A Ko r K h hk => loop_cod (P := Tryd.prog) (E := env n) (T := tab ρ n) (fun _ _ _ h => answers_ok h) F8 d8 (st8 n) d8_ok (show Cov _ (env n) (tab ρ n) b8 from ⟨⟨trivial, ⟨trivial, trivial⟩⟩, ⟨trivial, ⟨⟨trivial, ⟨trivial, trivial⟩⟩, ⟨trivial, trivial⟩⟩⟩⟩) (fun c Ko s nx => step8 ρ n c Ko s nx) n A Ko r K h hk
noncomputable def b3 : Code := (cL (cB (c2 (c1 (c2 (c2 body))))))
theorem d3_ok (A : Fr) (c : List (List Int)) (s : (List (List Int)) × Int) (h : d3 A = some (c, s)) : A = F3 c s := by
  unfold d3 at h
  split at h
  · cases h; rfl
  · cases h
theorem step3 (ρ : Type) (n : Nat) (c : List (List Int)) (Ko : Exit → Fr → Option ρ) (s : (List (List Int)) × Int) (nx : (List (List Int)) → ((List (List Int)) × Int) → Option ρ) :
    AEO (env n) (answers ρ (used n) (used n)) (tab ρ n) b3 (F3 c s) (thenO (fun A => bnd (d3 (restr (keepOf (env n) b3) A)) fun p => nx p.1 p.2) Ko) = st3 n c Ko s (nx c) := by kernel_rfl
theorem lp3_ok {ρ : Type} (n : Nat) (hl : EntsOK Tryd.prog gl (used n)) : ∀ (A : Fr) (Ko : Exit → Fr → Option ρ) (r : ρ) (K : Exit → Fr → Prop), (bnd (d3 (restr (keepOf (env n) b3) A)) fun p => iterM (st3 n p.1 Ko) n p.2) = some r → (∀ e A, Ko e A = some r → K e A) → Gx.Sem Tryd.prog (env n) (.loop b3) A K :=
  fun A Ko r K h hk => loop_cod (P := Tryd.prog) (E := env n) (T := tab ρ n) (fun _ _ _ h => answers_ok h) F3 d3 (st3 n) d3_ok (show Cov _ (env n) (tab ρ n) b3 from ⟨⟨trivial, ⟨trivial, trivial⟩⟩, ⟨⟨trivial, ⟨trivial, ⟨trivial, lp8_ok n hl⟩⟩⟩, trivial⟩⟩) (fun c Ko s nx => step3 ρ n c Ko s nx) n A Ko r K h hk
def enc (a : List (List Int)) : List AV := [.ls (.rows a)]
def dec : List AV → Option (List (List Int))
  | [.ls (.rows l0)] => some l0
  | _ => none
def emb (b : List (List Int)) : AV × List AV := (.ow 22 (.rows b), [])
def dr : AV → List AV → Option (List (List Int))
  | .ow 22 (.rows r0), [] => some r0
  | _, _ => none
theorem dec_ok (vs : List AV) (a : List (List Int)) (h : dec vs = some a) : vs = enc a := by
  unfold dec at h
  split at h
  · cases h; rfl
  · cases h
theorem dr_ok (v : AV) (o : List AV) (b : List (List Int)) (h : dr v o = some b) : emb b = (v, o) := by
  unfold dr at h
  split at h
  · cases h; rfl
  · cases h
noncomputable def ent (n : Nat) : Ent := { f := 73, ms := [.lend], α := List (List Int), β := List (List Int), dec := dec, enc := enc, emb := emb, m := fun a => Gm.ref2_InOrder n a, hdec := dec_ok }
theorem run (n : Nat) (a : List (List Int)) : AEO (env n) (answers (List (List Int)) (used n) (used n)) (tab (List (List Int)) n) body (frameOf (enc a) 0) (bodyO (env n) Tryd.f73.results.toList (enc a) dr) = (ent n).m a := by kernel_rfl
theorem ok (n : Nat) (hl : EntsOK Tryd.prog gl (used n)) : EntOK Tryd.prog gl (ent n) :=
  fnO_sound (P := Tryd.prog) (e := ent n) (fn := Tryd.f73) (body := body) (l := used n) (te := te) (gl := gl) (n := ⟨2, 58⟩) (cut := []) (keep := keep) (T := tab (List (List Int)) n) (dr := dr) Tryd.func73 (by kernel_rfl) (by kernel_rfl) te_ok (by kernel_rfl) (by kernel_rfl) hl (show Cov _ (env n) (tab (List (List Int)) n) body from ⟨trivial, ⟨trivial, ⟨⟨trivial, lp3_ok n hl⟩, ⟨trivial, trivial⟩⟩⟩⟩) dr_ok (fun a => ⟨rfl, rfl⟩) (run n)
theorem all_ok (n : Nat) : EntOK Tryd.prog gl (ent n) := ok n ⟨W_ref2_Sorted.all_ok n, W_ref2_Ahead.all_ok n, trivial⟩
end W_ref2_InOrder
namespace W_ref2_DoubleOf
noncomputable def body : Code := Tryd.f30.body.getD .skip
def keep : List (Nat × List Nat) := [(6, [1, 2, 4, 5, 6]), (10, [1, 2, 4, 5, 7])]
noncomputable def used (n : Nat) : List Ent := [W_ref2_InOrder.ent n]
noncomputable def env (n : Nat) : Env := envOf te gl (used n) ⟨1, 106⟩ [] keep
def F6 (c : Int × (List (List Int)) × Int × (List (List Int)) × Int) (s : (List (List Int)) × Int) : Fr := [(1, .bx [.pv (.int .i64 c.1), .ls (.rows c.2.1)]), (2, .bx [.pv (.int .i64 c.2.2.1), .ow 22 (.rows c.2.2.2.1)]), (4, .pv (.int .i64 c.2.2.2.2)), (5, .ow 22 (.rows s.1)), (6, .pv (.int .i64 s.2))]
def d6 : Fr → Option ((Int × (List (List Int)) × Int × (List (List Int)) × Int) × ((List (List Int)) × Int))
  | [(1, .bx [.pv (.int .i64 t1_0), .ls (.rows t1_1)]), (2, .bx [.pv (.int .i64 t2_0), .ow 22 (.rows t2_1)]), (4, .pv (.int .i64 t4)), (5, .ow 22 (.rows t5)), (6, .pv (.int .i64 t6))] => some ((t1_0, t1_1, t2_0, t2_1, t4), (t5, t6))
  | _ => none
def st6 {ρ : Type} (n : Nat) (c : Int × (List (List Int)) × Int × (List (List Int)) × Int) (Ko : Exit → Fr → Option ρ) (s : (List (List Int)) × Int) (nx : ((List (List Int)) × Int) → Option ρ) : Option ρ :=
  Gm.ref2_DoubleOf_s6 n c.1 c.2.1 c.2.2.1 c.2.2.2.1 c.2.2.2.2 s.1 s.2 (fun a0 a1 => nx (a0, a1)) (fun (y0 : List (List Int)) => Ko (.exit 0) [(1, .bx [.pv (.int .i64 c.1), .ls (.rows c.2.1)]), (2, .bx [.pv (.int .i64 c.2.2.1), .ow 22 (.rows c.2.2.2.1)]), (4, .pv (.int .i64 c.2.2.2.2)), (5, .ow 22 (.rows y0))])
def F10 (c : Int × (List (List Int)) × Int × (List (List Int)) × Int) (s : (List (List Int)) × Int) : Fr := [(1, .bx [.pv (.int .i64 c.1), .ls (.rows c.2.1)]), (2, .bx [.pv (.int .i64 c.2.2.1), .ow 22 (.rows c.2.2.2.1)]), (4, .pv (.int .i64 c.2.2.2.2)), (5, .ow 22 (.rows s.1)), (7, .pv (.int .i64 s.2))]
def d10 : Fr → Option ((Int × (List (List Int)) × Int × (List (List Int)) × Int) × ((List (List Int)) × Int))
  | [(1, .bx [.pv (.int .i64 t1_0), .ls (.rows t1_1)]), (2, .bx [.pv (.int .i64 t2_0), .ow 22 (.rows t2_1)]), (4, .pv (.int .i64 t4)), (5, .ow 22 (.rows t5)), (7, .pv (.int .i64 t7))] => some ((t1_0, t1_1, t2_0, t2_1, t4), (t5, t7))
  | _ => none
def st10 {ρ : Type} (n : Nat) (c : Int × (List (List Int)) × Int × (List (List Int)) × Int) (Ko : Exit → Fr → Option ρ) (s : (List (List Int)) × Int) (nx : ((List (List Int)) × Int) → Option ρ) : Option ρ :=
  Gm.ref2_DoubleOf_s10 n c.1 c.2.1 c.2.2.1 c.2.2.2.1 c.2.2.2.2 s.1 s.2 (fun a0 a1 => nx (a0, a1)) (fun (y0 : List (List Int)) => Ko (.exit 2) [(2, .bx [.pv (.int .i64 c.2.2.1), .ow 22 (.rows c.2.2.2.1)]), (4, .pv (.int .i64 c.2.2.2.2)), (5, .ow 22 (.rows y0))])
noncomputable def tab (ρ : Type) (n : Nat) : Tab ρ := { live := [(0, [1, 2]), (1, [1, 2, 4]), (2, [1, 2, 4, 15]), (3, [2, 3]), (4, [1, 2, 4, 5]), (5, [1, 2, 4, 5, 6]), (6, [1, 2, 4, 5, 6, 23]), (7, [1, 2, 4, 5, 6]), (8, [1, 2, 4, 5, 6]), (9, [1, 2, 4, 5, 7]), (10, [1, 2, 4, 5, 7, 40]), (11, [1, 2, 4, 5, 7]), (12, [1, 2, 4, 5, 7, 8]), (13, [1, 2, 4, 5, 7, 8]), (14, [1, 2, 4, 5, 7, 8]), (15, [1, 2, 4, 5, 7]), (16, [2, 4, 9]), (17, [2, 3])], xl := [(0, [1, 2, 4, 5]), (1, [1, 2, 4, 5, 6]), (2, [2, 4, 5]), (3, [1, 2, 4, 5, 7])], rl := [2, 3], fz := [], jp := [], lp := [(6, fun A Ko => bnd (d6 A) fun p => iterM (st6 n p.1 Ko) n p.2), (10, fun A Ko => bnd (d10 A) fun p => iterM (st10 n p.1 Ko) n p.2)] }
noncomputable def b6 : Code := (cL (cB (c2 (c1 (c2 (c2 (c2 (c2 body))))))))
theorem d6_ok (A : Fr) (c : Int × (List (List Int)) × Int × (List (List Int)) × Int) (s : (List (List Int)) × Int) (h : d6 A = some (c, s)) : A = F6 c s := by
  unfold d6 at h
  split at h
  · cases h; rfl
  · cases h
theorem step6 (ρ : Type) (n : Nat) (c : Int × (List (List Int)) × Int × (List (List Int)) × Int) (Ko : Exit → Fr → Option ρ) (s : (List (List Int)) × Int) (nx : (Int × (List (List Int)) × Int × (List (List Int)) × Int) → ((List (List Int)) × Int) → Option ρ) :
    AEO (env n) (answers ρ (used n) (used n)) (tab ρ n) b6 (F6 c s) (thenO (fun A => bnd (d6 (restr (keepOf (env n) b6) A)) fun p => nx p.1 p.2) Ko) = st6 n c Ko s (nx c) := by kernel_rfl
theorem lp6_ok {ρ : Type} (n : Nat) (hl : EntsOK Tryd.prog gl (used n)) : ∀ (A : Fr) (Ko : Exit → Fr → Option ρ) (r : ρ) (K : Exit → Fr → Prop), (bnd (d6 (restr (keepOf (env n) b6) A)) fun p => iterM (st6 n p.1 Ko) n p.2) = some r → (∀ e A, Ko e A = some r → K e A) → Gx.Sem Tryd.prog (env n) (.loop b6) A K :=
  fun A Ko r K h hk => loop_cod (P := Tryd.prog) (E := env n) (T := tab ρ n) (fun _ _ _ h => answers_ok h) F6 d6 (st6 n) d6_ok (show Cov _ (env n) (tab ρ n) b6 from ⟨⟨trivial, ⟨trivial, trivial⟩⟩, ⟨trivial, trivial⟩⟩) (fun c Ko s nx => step6 ρ n c Ko s nx) n A Ko r K h hk
noncomputable def b10 : Code := (cL (cB (c2 (c1 (c2 (c2 (c2 (c2 (c2 body)))))))))
theorem d10_ok (A : Fr) (c : Int × (List (List Int)) × Int × (List (List Int)) × Int) (s : (List (List Int)) × Int) (h : d10 A = some (c, s)) : A = F10 c s := by
  unfold d10 at h
  split at h
  · cases h; rfl
  · cases h
theorem step10 (ρ : Type) (n : Nat) (c : Int × (List (List Int)) × Int × (List (List Int)) × Int) (Ko : Exit → Fr → Option ρ) (s : (List (List Int)) × Int) (nx : (Int × (List (List Int)) × Int × (List (List Int)) × Int) → ((List (List Int)) × Int) → Option ρ) :
    AEO (env n) (answers ρ (used n) (used n)) (tab ρ n) b10 (F10 c s) (thenO (fun A => bnd (d10 (restr (keepOf (env n) b10) A)) fun p => nx p.1 p.2) Ko) = st10 n c Ko s (nx c) := by kernel_rfl
theorem lp10_ok {ρ : Type} (n : Nat) (hl : EntsOK Tryd.prog gl (used n)) : ∀ (A : Fr) (Ko : Exit → Fr → Option ρ) (r : ρ) (K : Exit → Fr → Prop), (bnd (d10 (restr (keepOf (env n) b10) A)) fun p => iterM (st10 n p.1 Ko) n p.2) = some r → (∀ e A, Ko e A = some r → K e A) → Gx.Sem Tryd.prog (env n) (.loop b10) A K :=
  fun A Ko r K h hk => loop_cod (P := Tryd.prog) (E := env n) (T := tab ρ n) (fun _ _ _ h => answers_ok h) F10 d10 (st10 n) d10_ok (show Cov _ (env n) (tab ρ n) b10 from ⟨⟨trivial, ⟨trivial, trivial⟩⟩, ⟨⟨trivial, ⟨trivial, ⟨trivial, trivial⟩⟩⟩, trivial⟩⟩) (fun c Ko s nx => step10 ρ n c Ko s nx) n A Ko r K h hk
def enc (a : Int × (List (List Int))) : List AV := [.ag [.pv (.int .i64 a.1), .ls (.rows a.2)]]
def dec : List AV → Option (Int × (List (List Int)))
  | [.ag [.pv (.int .i64 toArray0_0), .ls (.rows toArray0_1)]] => some (toArray0_0, toArray0_1)
  | _ => none
def emb (b : Int × (List (List Int)) × Int) : AV × List AV := (.tp [.ag [.pv (.int .i64 b.1), .sl (.rows b.2.1)], .pv (.int .i64 b.2.2)], [])
def dr : AV → List AV → Option (Int × (List (List Int)) × Int)
  | .tp [.ag [.pv (.int .i64 r0), .sl (.rows r1)], .pv (.int .i64 r2)], [] => some (r0, r1, r2)
  | _, _ => none
theorem dec_ok (vs : List AV) (a : Int × (List (List Int))) (h : dec vs = some a) : vs = enc a := by
  unfold dec at h
  split at h
  · cases h; rfl
  · cases h
theorem dr_ok (v : AV) (o : List AV) (b : Int × (List (List Int)) × Int) (h : dr v o = some b) : emb b = (v, o) := by
  unfold dr at h
  split at h
  · cases h; rfl
  · cases h
noncomputable def ent (n : Nat) : Ent := { f := 30, ms := [.lend], α := Int × (List (List Int)), β := Int × (List (List Int)) × Int, dec := dec, enc := enc, emb := emb, m := fun a => Gm.ref2_DoubleOf n a.1 a.2, hdec := dec_ok }
theorem run (n : Nat) (a : Int × (List (List Int))) : AEO (env n) (answers (Int × (List (List Int)) × Int) (used n) (used n)) (tab (Int × (List (List Int)) × Int) n) body (frameOf (enc a) 0) (bodyO (env n) Tryd.f30.results.toList (enc a) dr) = (ent n).m a := by kernel_rfl
theorem ok (n : Nat) (hl : EntsOK Tryd.prog gl (used n)) : EntOK Tryd.prog gl (ent n) :=
  fnO_sound (P := Tryd.prog) (e := ent n) (fn := Tryd.f30) (body := body) (l := used n) (te := te) (gl := gl) (n := ⟨1, 106⟩) (cut := []) (keep := keep) (T := tab (Int × (List (List Int)) × Int) n) (dr := dr) Tryd.func30 (by kernel_rfl) (by kernel_rfl) te_ok (by kernel_rfl) (by kernel_rfl) hl (show Cov _ (env n) (tab (Int × (List (List Int)) × Int) n) body from ⟨trivial, ⟨trivial, ⟨⟨trivial, ⟨⟨trivial, trivial⟩, trivial⟩⟩, ⟨trivial, ⟨⟨trivial, lp6_ok n hl⟩, ⟨⟨trivial, lp10_ok n hl⟩, ⟨trivial, ⟨trivial, trivial⟩⟩⟩⟩⟩⟩⟩⟩) dr_ok (fun a => ⟨rfl, rfl⟩) (run n)
theorem all_ok (n : Nat) : EntOK Tryd.prog gl (ent n) := ok n ⟨W_ref2_InOrder.all_ok n, trivial⟩
end W_ref2_DoubleOf
namespace W_ref1_Factorial
noncomputable def body : Code := Tryd.f109.body.getD .skip
def keep : List (Nat × List Nat) := [(3, [0, 3, 4])]
noncomputable def used (_n : Nat) : List Ent := []
noncomputable def env (n : Nat) : Env := envOf te gl (used n) ⟨2, 14⟩ [] keep
def F3 (c : Int) (s : Int × Int) : Fr := [(0, .pv (.int .i64 c)), (3, .pv (.int .i64 s.1)), (4, .pv (.int .i64 s.2))]
def d3 : Fr → Option ((Int) × (Int × Int))
  | [(0, .pv (.int .i64 n_0)), (3, .pv (.int .i64 f3)), (4, .pv (.int .i64 i4))] => some (n_0, (f3, i4))
  | _ => none
def st3 {ρ : Type} (n : Nat) (c : Int) (Ko : Exit → Fr → Option ρ) (s : Int × Int) (nx : (Int × Int) → Option ρ) : Option ρ :=
  Gm.ref1_Factorial_s3 n c s.1 s.2 (fun a0 a1 => nx (a0, a1)) (fun (y0 : Int) => Ko (.exit 0) [(3, .pv (.int .i64 y0))])
noncomputable def tab (ρ : Type) (n : Nat) : Tab ρ := { live := [(0, [0]), (1, [0, 3]), (2, [0, 3, 4]), (3, [0, 3, 4, 7]), (4, [0, 3, 4]), (5, [0, 3, 4]), (6, [2])], xl := [(0, [3]), (1, [0, 3, 4])], rl := [2], fz := [], jp := [], lp := [(3, fun A Ko => bnd (d3 A) fun p => iterM (st3 n p.1 Ko) n p.2)] }
noncomputable def b3 : Code := (cL (cB (c2 (c1 (c2 (c2 body))))))
theorem d3_ok (A : Fr) (c : Int) (s : Int × Int) (h : d3 A = some (c, s)) : A = F3 c s := by
  unfold d3 at h
  split at h
  · cases h; rfl
  · cases h
theorem step3 (ρ : Type) (n : Nat) (c : Int) (Ko : Exit → Fr → Option ρ) (s : Int × Int) (nx : (Int) → (Int × Int) → Option ρ) :
    AEO (env n) (answers ρ (used n) (used n)) (tab ρ n) b3 (F3 c s) (thenO (fun A => bnd (d3 (restr (keepOf (env n) b3) A)) fun p => nx p.1 p.2) Ko) = st3 n c Ko s (nx c) := by kernel_rfl
theorem lp3_ok {ρ : Type} (n : Nat) (hl : EntsOK Tryd.prog gl (used n)) : ∀ (A : Fr) (Ko : Exit → Fr → Option ρ) (r : ρ) (K : Exit → Fr → Prop), (bnd (d3 (restr (keepOf (env n) b3) A)) fun p => iterM (st3 n p.1 Ko) n p.2) = some r → (∀ e A, Ko e A = some r → K e A) → Gx.Sem Tryd.prog (env n) (.loop b3) A K :=
  fun A Ko r K h hk => loop_cod (P := Tryd.prog) (E := env n) (T := tab ρ n) (fun _ _ _ h => answers_ok h) F3 d3 (st3 n) d3_ok (show Cov _ (env n) (tab ρ n) b3 from ⟨⟨trivial, ⟨trivial, trivial⟩⟩, ⟨trivial, trivial⟩⟩) (fun c Ko s nx => step3 ρ n c Ko s nx) n A Ko r K h hk
def enc (a : Int) : List AV := [.pv (.int .i64 a)]
def dec : List AV → Option (Int)
  | [.pv (.int .i64 n_0)] => some n_0
  | _ => none
def emb (b : Int) : AV × List AV := (.pv (.int .i64 b), [])
def dr : AV → List AV → Option (Int)
  | .pv (.int .i64 r0), [] => some r0
  | _, _ => none
theorem dec_ok (vs : List AV) (a : Int) (h : dec vs = some a) : vs = enc a := by
  unfold dec at h
  split at h
  · cases h; rfl
  · cases h
theorem dr_ok (v : AV) (o : List AV) (b : Int) (h : dr v o = some b) : emb b = (v, o) := by
  unfold dr at h
  split at h
  · cases h; rfl
  · cases h
noncomputable def ent (n : Nat) : Ent := { f := 109, ms := [.lend], α := Int, β := Int, dec := dec, enc := enc, emb := emb, m := fun a => Gm.ref1_Factorial n a, hdec := dec_ok }
theorem run (n : Nat) (a : Int) : AEO (env n) (answers (Int) (used n) (used n)) (tab (Int) n) body (frameOf (enc a) 0) (bodyO (env n) Tryd.f109.results.toList (enc a) dr) = (ent n).m a := by kernel_rfl
theorem ok (n : Nat) (hl : EntsOK Tryd.prog gl (used n)) : EntOK Tryd.prog gl (ent n) :=
  fnO_sound (P := Tryd.prog) (e := ent n) (fn := Tryd.f109) (body := body) (l := used n) (te := te) (gl := gl) (n := ⟨2, 14⟩) (cut := []) (keep := keep) (T := tab (Int) n) (dr := dr) Tryd.func109 (by kernel_rfl) (by kernel_rfl) te_ok (by kernel_rfl) (by kernel_rfl) hl (show Cov _ (env n) (tab (Int) n) body from ⟨trivial, ⟨trivial, ⟨⟨trivial, lp3_ok n hl⟩, ⟨trivial, trivial⟩⟩⟩⟩) dr_ok (fun a => ⟨rfl, rfl⟩) (run n)
theorem all_ok (n : Nat) : EntOK Tryd.prog gl (ent n) := ok n trivial
end W_ref1_Factorial
namespace W_ref1_PermOfRank
noncomputable def body : Code := Tryd.f74.body.getD .skip
def keep : List (Nat × List Nat) := [(9, [0, 1, 7, 8, 9]), (15, [0, 1, 7, 8, 9, 10, 11])]
noncomputable def used (n : Nat) : List Ent := [W_ref1_Factorial.ent n]
noncomputable def env (n : Nat) : Env := envOf te gl (used n) ⟨1, 66⟩ [] keep
def F15 (c : Int × Int × (List Int) × (List Bool) × Int) (s : Int × Int) : Fr := [(0, .pv (.int .i64 c.1)), (1, .pv (.int .i64 c.2.1)), (7, .ow 3 (.ints .i64 c.2.2.1)), (8, .ow 4 (.bools c.2.2.2.1)), (9, .pv (.int .i64 c.2.2.2.2)), (10, .pv (.int .i64 s.1)), (11, .pv (.int .i64 s.2))]
def d15 : Fr → Option ((Int × Int × (List Int) × (List Bool) × Int) × (Int × Int))
  | [(0, .pv (.int .i64 toArray0)), (1, .pv (.int .i64 t1)), (7, .ow 3 (.ints .i64 t7)), (8, .ow 4 (.bools t8)), (9, .pv (.int .i64 t9)), (10, .pv (.int .i64 t10)), (11, .pv (.int .i64 t11))] => some ((toArray0, t1, t7, t8, t9), (t10, t11))
  | _ => none
def st15 {ρ : Type} (n : Nat) (c : Int × Int × (List Int) × (List Bool) × Int) (Ko : Exit → Fr → Option ρ) (s : Int × Int) (nx : (Int × Int) → Option ρ) : Option ρ :=
  Gm.ref1_PermOfRank_s15 n c.1 c.2.1 c.2.2.1 c.2.2.2.1 c.2.2.2.2 s.1 s.2 (fun a0 a1 => nx (a0, a1)) (fun (y0 : List Int) (y1 : List Bool) => Ko (.exit 2) [(7, .ow 3 (.ints .i64 y0)), (0, .pv (.int .i64 c.1)), (1, .pv (.int .i64 c.2.1)), (8, .ow 4 (.bools y1)), (9, .pv (.int .i64 c.2.2.2.2))]) (Ko (.exit 2) [(0, .pv (.int .i64 c.1)), (1, .pv (.int .i64 c.2.1)), (7, .ow 3 (.ints .i64 c.2.2.1)), (8, .ow 4 (.bools c.2.2.2.1)), (9, .pv (.int .i64 c.2.2.2.2))])
def F9 (c : Int) (s : Int × (List Int) × (List Bool) × Int) : Fr := [(0, .pv (.int .i64 c)), (1, .pv (.int .i64 s.1)), (7, .ow 3 (.ints .i64 s.2.1)), (8, .ow 4 (.bools s.2.2.1)), (9, .pv (.int .i64 s.2.2.2))]
def d9 : Fr → Option ((Int) × (Int × (List Int) × (List Bool) × Int))
  | [(0, .pv (.int .i64 toArray0)), (1, .pv (.int .i64 t1)), (7, .ow 3 (.ints .i64 t7)), (8, .ow 4 (.bools t8)), (9, .pv (.int .i64 t9))] => some (toArray0, (t1, t7, t8, t9))
  | _ => none
def st9 {ρ : Type} (n : Nat) (c : Int) (Ko : Exit → Fr → Option ρ) (s : Int × (List Int) × (List Bool) × Int) (nx : (Int × (List Int) × (List Bool) × Int) → Option ρ) : Option ρ :=
  Gm.ref1_PermOfRank_s9 n c s.1 s.2.1 s.2.2.1 s.2.2.2 (fun a0 a1 a2 a3 => nx (a0, a1, a2, a3)) (fun (y0 : List Int) => Ko (.exit 0) [(7, .ow 3 (.ints .i64 y0))])
noncomputable def tab (ρ : Type) (n : Nat) : Tab ρ := { live := [(0, [0, 1]), (1, [0, 1, 17]), (2, [4, 5]), (3, [0, 1, 6]), (4, [0, 1, 26]), (5, [4, 5]), (6, [0, 1, 7]), (7, [0, 1, 7, 8]), (8, [0, 1, 7, 8, 9]), (9, [0, 1, 7, 8, 9, 31]), (10, [0, 1, 7, 8, 9]), (11, [0, 1, 6, 7, 8, 9]), (12, [0, 1, 6, 7, 8, 9, 10]), (13, [0, 1, 7, 8, 9, 10]), (14, [0, 1, 7, 8, 9, 10, 11]), (15, [0, 1, 7, 8, 9, 10, 11, 47]), (16, [0, 1, 7, 8, 9, 10, 11]), (17, [0, 1, 7, 8, 9, 10, 11, 53]), (18, [0, 1, 7, 8, 9, 10, 11, 55]), (19, [0, 1, 7, 8, 9, 11]), (20, [0, 1, 7, 8, 9]), (21, [0, 1, 7, 8, 9, 10, 11]), (22, [4, 5, 7])], xl := [(0, [7]), (1, [0, 1, 7, 8, 9]), (2, [0, 1, 7, 8, 9]), (3, [0, 1, 7, 8, 9, 10, 11])], rl := [4, 5, 7], fz := [], jp := [], lp := [(15, fun A Ko => bnd (d15 A) fun p => iterM (st15 n p.1 Ko) n p.2), (9, fun A Ko => bnd (d9 A) fun p => iterM (st9 n p.1 Ko) n p.2)] }
noncomputable def b15 : Code := (cL (cB (c2 (c2 (c2 (c2 (cB (c1 (c2 (cL (cB (c2 (c1 (c2 (c2 (c2 (c2 (c2 (c2 body)))))))))))))))))))
theorem d15_ok (A : Fr) (c : Int × Int × (List Int) × (List Bool) × Int) (s : Int × Int) (h : d15 A = some (c, s)) : A = F15 c s := by
  unfold d15 at h
  split at h
  · cases h; rfl
  · cases h
theorem step15 (ρ : Type) (n : Nat) (c : Int × Int × (List Int) × (List Bool) × Int) (Ko : Exit → Fr → Option ρ) (s : Int × Int) (nx : (Int × Int × (List Int) × (List Bool) × Int) → (Int × Int) → Option ρ) :
    AEO (env n) (answers ρ (used n) (used n)) (tab ρ n) b15 (F15 c s) (thenO (fun A => bnd (d15 (restr (keepOf (env n) b15) A)) fun p => nx p.1 p.2) Ko) = st15 n c Ko s (nx c) := by kernel_rfl
theorem lp15_ok {ρ : Type} (n : Nat) (hl : EntsOK Tryd.prog gl (used n)) : ∀ (A : Fr) (Ko : Exit → Fr → Option ρ) (r : ρ) (K : Exit → Fr → Prop), (bnd (d15 (restr (keepOf (env n) b15) A)) fun p => iterM (st15 n p.1 Ko) n p.2) = some r → (∀ e A, Ko e A = some r → K e A) → Gx.Sem Tryd.prog (env n) (.loop b15) A K :=
  fun A Ko r K h hk => loop_cod (P := Tryd.prog) (E := env n) (T := tab ρ n) (fun _ _ _ h => answers_ok h) F15 d15 (st15 n) d15_ok (show Cov _ (env n) (tab ρ n) b15 from ⟨⟨trivial, ⟨trivial, trivial⟩⟩, ⟨⟨⟨trivial, ⟨trivial, trivial⟩⟩, ⟨⟨trivial, ⟨⟨trivial, ⟨trivial, trivial⟩⟩, trivial⟩⟩, trivial⟩⟩, trivial⟩⟩) (fun c Ko s nx => step15 ρ n c Ko s nx) n A Ko r K h hk
noncomputable def b9 : Code := (cL (cB (c2 (c1 (c2 (c2 (c2 (c2 (c2 (c2 body))))))))))
theorem d9_ok (A : Fr) (c : Int) (s : Int × (List Int) × (List Bool) × Int) (h : d9 A = some (c, s)) : A = F9 c s := by
  unfold d9 at h
  split at h
  · cases h; rfl
  · cases h
theorem step9 (ρ : Type) (n : Nat) (c : Int) (Ko : Exit → Fr → Option ρ) (s : Int × (List Int) × (List Bool) × Int) (nx : (Int) → (Int × (List Int) × (List Bool) × Int) → Option ρ) :
    AEO (env n) (answers ρ (used n) (used n)) (tab ρ n) b9 (F9 c s) (thenO (fun A => bnd (d9 (restr (keepOf (env n) b9) A)) fun p => nx p.1 p.2) Ko) = st9 n c Ko s (nx c) := by kernel_rfl
theorem lp9_ok {ρ : Type} (n : Nat) (hl : EntsOK Tryd.prog gl (used n)) : ∀ (A : Fr) (Ko : Exit → Fr → Option ρ) (r : ρ) (K : Exit → Fr → Prop), (bnd (d9 (restr (keepOf (env n) b9) A)) fun p => iterM (st9 n p.1 Ko) n p.2) = some r → (∀ e A, Ko e A = some r → K e A) → Gx.Sem Tryd.prog (env n) (.loop b9) A K :=
  fun A Ko r K h hk => loop_cod (P := Tryd.prog) (E := env n) (T := tab ρ n) (fun _ _ _ h => answers_ok h) F9 d9 (st9 n) d9_ok (show Cov _ (env n) (tab ρ n) b9 from ⟨⟨trivial, ⟨trivial, trivial⟩⟩, ⟨⟨trivial, ⟨trivial, ⟨trivial, ⟨trivial, lp15_ok n hl⟩⟩⟩⟩, trivial⟩⟩) (fun c Ko s nx => step9 ρ n c Ko s nx) n A Ko r K h hk
def enc (a : Int × Int) : List AV := [.pv (.int .i64 a.1), .pv (.int .i64 a.2)]
def dec : List AV → Option (Int × Int)
  | [.pv (.int .i64 toArray0), .pv (.int .i64 t1)] => some (toArray0, t1)
  | _ => none
def emb (b : (List Int) × Int) : AV × List AV := (.tp [.sl (.ints .i64 b.1), .pv (.int .i64 b.2)], [])
def dr : AV → List AV → Option ((List Int) × Int)
  | .tp [.sl (.ints .i64 r0), .pv (.int .i64 r1)], [] => some (r0, r1)
  | _, _ => none
theorem dec_ok (vs : List AV) (a : Int × Int) (h : dec vs = some a) : vs = enc a := by
  unfold dec at h
  split at h
  · cases h; rfl
  · cases h
theorem dr_ok (v : AV) (o : List AV) (b : (List Int) × Int) (h : dr v o = some b) : emb b = (v, o) := by
  unfold dr at h
  split at h
  · cases h; rfl
  · cases h
noncomputable def ent (n : Nat) : Ent := { f := 74, ms := [.lend, .lend], α := Int × Int, β := (List Int) × Int, dec := dec, enc := enc, emb := emb, m := fun a => Gm.ref1_PermOfRank n a.1 a.2, hdec := dec_ok }
theorem run (n : Nat) (a : Int × Int) : AEO (env n) (answers ((List Int) × Int) (used n) (used n)) (tab ((List Int) × Int) n) body (frameOf (enc a) 0) (bodyO (env n) Tryd.f74.results.toList (enc a) dr) = (ent n).m a := by kernel_rfl
theorem ok (n : Nat) (hl : EntsOK Tryd.prog gl (used n)) : EntOK Tryd.prog gl (ent n) :=
  fnO_sound (P := Tryd.prog) (e := ent n) (fn := Tryd.f74) (body := body) (l := used n) (te := te) (gl := gl) (n := ⟨1, 66⟩) (cut := []) (keep := keep) (T := tab ((List Int) × Int) n) (dr := dr) Tryd.func74 (by kernel_rfl) (by kernel_rfl) te_ok (by kernel_rfl) (by kernel_rfl) hl (show Cov _ (env n) (tab ((List Int) × Int) n) body from ⟨trivial, ⟨⟨trivial, ⟨⟨trivial, trivial⟩, trivial⟩⟩, ⟨trivial, ⟨⟨trivial, ⟨⟨trivial, trivial⟩, trivial⟩⟩, ⟨trivial, ⟨trivial, ⟨⟨trivial, lp9_ok n hl⟩, ⟨trivial, trivial⟩⟩⟩⟩⟩⟩⟩⟩) dr_ok (fun a => ⟨rfl, rfl⟩) (run n)
theorem all_ok (n : Nat) : EntOK Tryd.prog gl (ent n) := ok n ⟨W_ref1_Factorial.all_ok n, trivial⟩
end W_ref1_PermOfRank
namespace W_ref2_ProductOf
noncomputable def body : Code := Tryd.f31.body.getD .skip
def keep : List (Nat × List Nat) := [(7, [2, 3, 4, 6, 7, 8, 9]), (10, [2, 3, 4, 6, 7, 8, 9, 10]), (15, [2, 3, 4, 6, 7, 8, 12]), (19, [2, 3, 4, 6, 7, 8, 12, 13, 14]), (23, [2, 3, 4, 6, 7, 8, 12, 13, 15]), (27, [2, 3, 4, 6, 7, 8, 12, 13, 15, 16, 17])]
noncomputable def used (n : Nat) : List Ent := [W_ref1_PermOfRank.ent n, W_ref2_InOrder.ent n]
noncomputable def env (n : Nat) : Env := envOf te gl (used n) ⟨2, 182⟩ [] keep
def F10 (c : Int × (List (List Int)) × Int × (List (List Int)) × Int × (List (List Int)) × Int × Int × Int) (s : (List (List Int)) × Int) : Fr := [(2, .bx [.pv (.int .i64 c.1), .ls (.rows c.2.1)]), (3, .bx [.pv (.int .i64 c.2.2.1), .ls (.rows c.2.2.2.1)]), (4, .bx [.pv (.int .i64 c.2.2.2.2.1), .ow 22 (.rows c.2.2.2.2.2.1)]), (6, .pv (.int .i64 c.2.2.2.2.2.2.1)), (7, .pv (.int .i64 c.2.2.2.2.2.2.2.1)), (8, .ow 22 (.rows s.1)), (9, .pv (.int .i64 c.2.2.2.2.2.2.2.2)), (10, .pv (.int .i64 s.2))]
def d10 : Fr → Option ((Int × (List (List Int)) × Int × (List (List Int)) × Int × (List (List Int)) × Int × Int × Int) × ((List (List Int)) × Int))
  | [(2, .bx [.pv (.int .i64 t2_0), .ls (.rows t2_1)]), (3, .bx [.pv (.int .i64 t3_0), .ls (.rows t3_1)]), (4, .bx [.pv (.int .i64 t4_0), .ow 22 (.rows t4_1)]), (6, .pv (.int .i64 t6)), (7, .pv (.int .i64 t7)), (8, .ow 22 (.rows t8)), (9, .pv (.int .i64 t9)), (10, .pv (.int .i64 t10))] => some ((t2_0, t2_1, t3_0, t3_1, t4_0, t4_1, t6, t7, t9), (t8, t10))
  | _ => none
def st10 {ρ : Type} (n : Nat) (c : Int × (List (List Int)) × Int × (List (List Int)) × Int × (List (List Int)) × Int × Int × Int) (Ko : Exit → Fr → Option ρ) (s : (List (List Int)) × Int) (nx : ((List (List Int)) × Int) → Option ρ) : Option ρ :=
  Gm.ref2_ProductOf_s10 n c.1 c.2.1 c.2.2.1 c.2.2.2.1 c.2.2.2.2.1 c.2.2.2.2.2.1 c.2.2.2.2.2.2.1 c.2.2.2.2.2.2.2.1 c.2.2.2.2.2.2.2.2 s.1 s.2 (fun a0 a1 => nx (a0, a1)) (fun (y0 : List (List Int)) => Ko (.exit 2) [(2, .bx [.pv (.int .i64 c.1), .ls (.rows c.2.1)]), (3, .bx [.pv (.int .i64 c.2.2.1), .ls (.rows c.2.2.2.1)]), (4, .bx [.pv (.int .i64 c.2.2.2.2.1), .ow 22 (.rows c.2.2.2.2.2.1)]), (6, .pv (.int .i64 c.2.2.2.2.2.2.1)), (7, .pv (.int .i64 c.2.2.2.2.2.2.2.1)), (8, .ow 22 (.rows y0)), (9, .pv (.int .i64 c.2.2.2.2.2.2.2.2))])
def F7 (c : Int × (List (List Int)) × Int × (List (List Int)) × Int × (List (List Int)) × Int × Int) (s : (List (List Int)) × Int) : Fr := [(2, .bx [.pv (.int .i64 c.1), .ls (.rows c.2.1)]), (3, .bx [.pv (.int .i64 c.2.2.1), .ls (.rows c.2.2.2.1)]), (4, .bx [.pv (.int .i64 c.2.2.2.2.1), .ow 22 (.rows c.2.2.2.2.2.1)]), (6, .pv (.int .i64 c.2.2.2.2.2.2.1)), (7, .pv (.int .i64 c.2.2.2.2.2.2.2)), (8, .ow 22 (.rows s.1)), (9, .pv (.int .i64 s.2))]
def d7 : Fr → Option ((Int × (List (List Int)) × Int × (List (List Int)) × Int × (List (List Int)) × Int × Int) × ((List (List Int)) × Int))
  | [(2, .bx [.pv (.int .i64 t2_0), .ls (.rows t2_1)]), (3, .bx [.pv (.int .i64 t3_0), .ls (.rows t3_1)]), (4, .bx [.pv (.int .i64 t4_0), .ow 22 (.rows t4_1)]), (6, .pv (.int .i64 t6)), (7, .pv (.int .i64 t7)), (8, .ow 22 (.rows t8)), (9, .pv (.int .i64 t9))] => some ((t2_0, t2_1, t3_0, t3_1, t4_0, t4_1, t6, t7), (t8, t9))
  | _ => none
def st7 {ρ : Type} (n : Nat) (c : Int × (List (List Int)) × Int × (List (List Int)) × Int × (List (List Int)) × Int × Int) (Ko : Exit → Fr → Option ρ) (s : (List (List Int)) × Int) (nx : ((List (List Int)) × Int) → Option ρ) : Option ρ :=
  Gm.ref2_ProductOf_s7 n c.1 c.2.1 c.2.2.1 c.2.2.2.1 c.2.2.2.2.1 c.2.2.2.2.2.1 c.2.2.2.2.2.2.1 c.2.2.2.2.2.2.2 s.1 s.2 (fun a0 a1 => nx (a0, a1)) (fun (y0 : List (List Int)) => Ko (.exit 0) [(2, .bx [.pv (.int .i64 c.1), .ls (.rows c.2.1)]), (3, .bx [.pv (.int .i64 c.2.2.1), .ls (.rows c.2.2.2.1)]), (4, .bx [.pv (.int .i64 c.2.2.2.2.1), .ow 22 (.rows c.2.2.2.2.2.1)]), (6, .pv (.int .i64 c.2.2.2.2.2.2.1)), (7, .pv (.int .i64 c.2.2.2.2.2.2.2)), (8, .ow 22 (.rows y0))])
def F19 (c : Int × (List (List Int)) × Int × (List (List Int)) × Int × (List (List Int)) × Int × Int × Int × (List Int)) (s : (List (List Int)) × Int) : Fr := [(2, .bx [.pv (.int .i64 c.1), .ls (.rows c.2.1)]), (3, .bx [.pv (.int .i64 c.2.2.1), .ls (.rows c.2.2.2.1)]), (4, .bx [.pv (.int .i64 c.2.2.2.2.1), .ow 22 (.rows c.2.2.2.2.2.1)]), (6, .pv (.int .i64 c.2.2.2.2.2.2.1)), (7, .pv (.int .i64 c.2.2.2.2.2.2.2.1)), (8, .ow 22 (.rows s.1)), (12, .pv (.int .i64 c.2.2.2.2.2.2.2.2.1)), (13, .sl (.ints .i64 c.2.2.2.2.2.2.2.2.2)), (14, .pv (.int .i64 s.2))]
def d19 : Fr → Option ((Int × (List (List Int)) × Int × (List (List Int)) × Int × (List (List Int)) × Int × Int × Int × (List Int)) × ((List (List Int)) × Int))
  | [(2, .bx [.pv (.int .i64 t2_0), .ls (.rows t2_1)]), (3, .bx [.pv (.int .i64 t3_0), .ls (.rows t3_1)]), (4, .bx [.pv (.int .i64 t4_0), .ow 22 (.rows t4_1)]), (6, .pv (.int .i64 t6)), (7, .pv (.int .i64 t7)), (8, .ow 22 (.rows t8)), (12, .pv (.int .i64 t12)), (13, .sl (.ints .i64 t13)), (14, .pv (.int .i64 t14))] => some ((t2_0, t2_1, t3_0, t3_1, t4_0, t4_1, t6, t7, t12, t13), (t8, t14))
  | _ => none
def st19 {ρ : Type} (n : Nat) (c : Int × (List (List Int)) × Int × (List (List Int)) × Int × (List (List Int)) × Int × Int × Int × (List Int)) (Ko : Exit → Fr → Option ρ) (s : (List (List Int)) × Int) (nx : ((List (List Int)) × Int) → Option ρ) : Option ρ :=
  Gm.ref2_ProductOf_s19 n c.1 c.2.1 c.2.2.1 c.2.2.2.1 c.2.2.2.2.1 c.2.2.2.2.2.1 c.2.2.2.2.2.2.1 c.2.2.2.2.2.2.2.1 c.2.2.2.2.2.2.2.2.1 c.2.2.2.2.2.2.2.2.2 s.1 s.2 (fun a0 a1 => nx (a0, a1)) (fun (y0 : List (List Int)) => Ko (.exit 6) [(2, .bx [.pv (.int .i64 c.1), .ls (.rows c.2.1)]), (3, .bx [.pv (.int .i64 c.2.2.1), .ls (.rows c.2.2.2.1)]), (4, .bx [.pv (.int .i64 c.2.2.2.2.1), .ow 22 (.rows c.2.2.2.2.2.1)]), (6, .pv (.int .i64 c.2.2.2.2.2.2.1)), (7, .pv (.int .i64 c.2.2.2.2.2.2.2.1)), (8, .ow 22 (.rows y0)), (12, .pv (.int .i64 c.2.2.2.2.2.2.2.2.1)), (13, .sl (.ints .i64 c.2.2.2.2.2.2.2.2.2))])
def F27 (c : Int × (List (List Int)) × Int × (List (List Int)) × Int × (List (List Int)) × Int × Int × Int × (List Int) × Int × (List Int)) (s : (List (List Int)) × Int) : Fr := [(2, .bx [.pv (.int .i64 c.1), .ls (.rows c.2.1)]), (3, .bx [.pv (.int .i64 c.2.2.1), .ls (.rows c.2.2.2.1)]), (4, .bx [.pv (.int .i64 c.2.2.2.2.1), .ow 22 (.rows c.2.2.2.2.2.1)]), (6, .pv (.int .i64 c.2.2.2.2.2.2.1)), (7, .pv (.int .i64 c.2.2.2.2.2.2.2.1)), (8, .ow 22 (.rows s.1)), (12, .pv (.int .i64 c.2.2.2.2.2.2.2.2.1)), (13, .sl (.ints .i64 c.2.2.2.2.2.2.2.2.2.1)), (15, .pv (.int .i64 c.2.2.2.2.2.2.2.2.2.2.1)), (16, .sl (.ints .i64 c.2.2.2.2.2.2.2.2.2.2.2)), (17, .pv (.int .i64 s.2))]
def d27 : Fr → Option ((Int × (List (List Int)) × Int × (List (List Int)) × Int × (List (List Int)) × Int × Int × Int × (List Int) × Int × (List Int)) × ((List (List Int)) × Int))
  | [(2, .bx [.pv (.int .i64 t2_0), .ls (.rows t2_1)]), (3, .bx [.pv (.int .i64 t3_0), .ls (.rows t3_1)]), (4, .bx [.pv (.int .i64 t4_0), .ow 22 (.rows t4_1)]), (6, .pv (.int .i64 t6)), (7, .pv (.int .i64 t7)), (8, .ow 22 (.rows t8)), (12, .pv (.int .i64 t12)), (13, .sl (.ints .i64 t13)), (15, .pv (.int .i64 t15)), (16, .sl (.ints .i64 t16)), (17, .pv (.int .i64 t17))] => some ((t2_0, t2_1, t3_0, t3_1, t4_0, t4_1, t6, t7, t12, t13, t15, t16), (t8, t17))
  | _ => none
def st27 {ρ : Type} (n : Nat) (c : Int × (List (List Int)) × Int × (List (List Int)) × Int × (List (List Int)) × Int × Int × Int × (List Int) × Int × (List Int)) (Ko : Exit → Fr → Option ρ) (s : (List (List Int)) × Int) (nx : ((List (List Int)) × Int) → Option ρ) : Option ρ :=
  Gm.ref2_ProductOf_s27 n c.1 c.2.1 c.2.2.1 c.2.2.2.1 c.2.2.2.2.1 c.2.2.2.2.2.1 c.2.2.2.2.2.2.1 c.2.2.2.2.2.2.2.1 c.2.2.2.2.2.2.2.2.1 c.2.2.2.2.2.2.2.2.2.1 c.2.2.2.2.2.2.2.2.2.2.1 c.2.2.2.2.2.2.2.2.2.2.2 s.1 s.2 (fun a0 a1 => nx (a0, a1)) (fun (y0 : List (List Int)) => Ko (.exit 10) [(2, .bx [.pv (.int .i64 c.1), .ls (.rows c.2.1)]), (3, .bx [.pv (.int .i64 c.2.2.1), .ls (.rows c.2.2.2.1)]), (4, .bx [.pv (.int .i64 c.2.2.2.2.1), .ow 22 (.rows c.2.2.2.2.2.1)]), (6, .pv (.int .i64 c.2.2.2.2.2.2.1)), (7, .pv (.int .i64 c.2.2.2.2.2.2.2.1)), (8, .ow 22 (.rows y0)), (12, .pv (.int .i64 c.2.2.2.2.2.2.2.2.1)), (13, .sl (.ints .i64 c.2.2.2.2.2.2.2.2.2.1)), (15, .pv (.int .i64 c.2.2.2.2.2.2.2.2.2.2.1))])
def F23 (c : Int × (List (List Int)) × Int × (List (List Int)) × Int × (List (List Int)) × Int × Int × Int × (List Int)) (s : (List (List Int)) × Int) : Fr := [(2, .bx [.pv (.int .i64 c.1), .ls (.rows c.2.1)]), (3, .bx [.pv (.int .i64 c.2.2.1), .ls (.rows c.2.2.2.1)]), (4, .bx [.pv (.int .i64 c.2.2.2.2.1), .ow 22 (.rows c.2.2.2.2.2.1)]), (6, .pv (.int .i64 c.2.2.2.2.2.2.1)), (7, .pv (.int .i64 c.2.2.2.2.2.2.2.1)), (8, .ow 22 (.rows s.1)), (12, .pv (.int .i64 c.2.2.2.2.2.2.2.2.1)), (13, .sl (.ints .i64 c.2.2.2.2.2.2.2.2.2)), (15, .pv (.int .i64 s.2))]
def d23 : Fr → Option ((Int × (List (List Int)) × Int × (List (List Int)) × Int × (List (List Int)) × Int × Int × Int × (List Int)) × ((List (List Int)) × Int))
  | [(2, .bx [.pv (.int .i64 t2_0), .ls (.rows t2_1)]), (3, .bx [.pv (.int .i64 t3_0), .ls (.rows t3_1)]), (4, .bx [.pv (.int .i64 t4_0), .ow 22 (.rows t4_1)]), (6, .pv (.int .i64 t6)), (7, .pv (.int .i64 t7)), (8, .ow 22 (.rows t8)), (12, .pv (.int .i64 t12)), (13, .sl (.ints .i64 t13)), (15, .pv (.int .i64 t15))] => some ((t2_0, t2_1, t3_0, t3_1, t4_0, t4_1, t6, t7, t12, t13), (t8, t15))
  | _ => none
def st23 {ρ : Type} (n : Nat) (c : Int × (List (List Int)) × Int × (List (List Int)) × Int × (List (List Int)) × Int × Int × Int × (List Int)) (Ko : Exit → Fr → Option ρ) (s : (List (List Int)) × Int) (nx : ((List (List Int)) × Int) → Option ρ) : Option ρ :=
  Gm.ref2_ProductOf_s23 n c.1 c.2.1 c.2.2.1 c.2.2.2.1 c.2.2.2.2.1 c.2.2.2.2.2.1 c.2.2.2.2.2.2.1 c.2.2.2.2.2.2.2.1 c.2.2.2.2.2.2.2.2.1 c.2.2.2.2.2.2.2.2.2 s.1 s.2 (fun a0 a1 => nx (a0, a1)) (fun (y0 : List (List Int)) => Ko (.exit 8) [(2, .bx [.pv (.int .i64 c.1), .ls (.rows c.2.1)]), (3, .bx [.pv (.int .i64 c.2.2.1), .ls (.rows c.2.2.2.1)]), (4, .bx [.pv (.int .i64 c.2.2.2.2.1), .ow 22 (.rows c.2.2.2.2.2.1)]), (6, .pv (.int .i64 c.2.2.2.2.2.2.1)), (7, .pv (.int .i64 c.2.2.2.2.2.2.2.1)), (8, .ow 22 (.rows y0)), (12, .pv (.int .i64 c.2.2.2.2.2.2.2.2.1))])
def F15 (c : Int × (List (List Int)) × Int × (List (List Int)) × Int × (List (List Int)) × Int × Int) (s : (List (List Int)) × Int) : Fr := [(2, .bx [.pv (.int .i64 c.1), .ls (.rows c.2.1)]), (3, .bx [.pv (.int .i64 c.2.2.1), .ls (.rows c.2.2.2.1)]), (4, .bx [.pv (.int .i64 c.2.2.2.2.1), .ow 22 (.rows c.2.2.2.2.2.1)]), (6, .pv (.int .i64 c.2.2.2.2.2.2.1)), (7, .pv (.int .i64 c.2.2.2.2.2.2.2)), (8, .ow 22 (.rows s.1)), (12, .pv (.int .i64 s.2))]
def d15 : Fr → Option ((Int × (List (List Int)) × Int × (List (List Int)) × Int × (List (List Int)) × Int × Int) × ((List (List Int)) × Int))
  | [(2, .bx [.pv (.int .i64 t2_0), .ls (.rows t2_1)]), (3, .bx [.pv (.int .i64 t3_0), .ls (.rows t3_1)]), (4, .bx [.pv (.int .i64 t4_0), .ow 22 (.rows t4_1)]), (6, .pv (.int .i64 t6)), (7, .pv (.int .i64 t7)), (8, .ow 22 (.rows t8)), (12, .pv (.int .i64 t12))] => some ((t2_0, t2_1, t3_0, t3_1, t4_0, t4_1, t6, t7), (t8, t12))
  | _ => none
def st15 {ρ : Type} (n : Nat) (c : Int × (List (List Int)) × Int × (List (List Int)) × Int × (List (List Int)) × Int × Int) (Ko : Exit → Fr → Option ρ) (s : (List (List Int)) × Int) (nx : ((List (List Int)) × Int) → Option ρ) : Option ρ :=
  Gm.ref2_ProductOf_s15 n c.1 c.2.1 c.2.2.1 c.2.2.2.1 c.2.2.2.2.1 c.2.2.2.2.2.1 c.2.2.2.2.2.2.1 c.2.2.2.2.2.2.2 s.1 s.2 (fun a0 a1 => nx (a0, a1)) (fun (y0 : List (List Int)) => Ko (.exit 4) [(4, .bx [.pv (.int .i64 c.2.2.2.2.1), .ow 22 (.rows c.2.2.2.2.2.1)]), (6, .pv (.int .i64 c.2.2.2.2.2.2.1)), (7, .pv (.int .i64 c.2.2.2.2.2.2.2)), (8, .ow 22 (.rows y0))])
noncomputable def tab (ρ : Type) (n : Nat) : Tab ρ := { live := [(0, [2, 3, 4]), (1, [2, 3, 4, 6]), (2, [2, 3, 4, 6, 7]), (3, [2, 3, 4, 6, 7, 28]), (4, [4, 5]), (5, [2, 3, 4, 6, 7, 8]), (6, [2, 3, 4, 6, 7, 8, 9]), (7, [2, 3, 4, 6, 7, 8, 9, 32]), (8, [2, 3, 4, 6, 7, 8, 9]), (9, [2, 3, 4, 6, 7, 8, 9, 10]), (10, [2, 3, 4, 6, 7, 8, 9, 10, 39]), (11, [2, 3, 4, 6, 7, 8, 9, 10]), (12, [2, 3, 4, 6, 7, 8, 9, 10, 11]), (13, [2, 3, 4, 6, 7, 8, 9, 10]), (14, [2, 3, 4, 6, 7, 8, 12]), (15, [2, 3, 4, 6, 7, 8, 12, 76]), (16, [2, 3, 4, 6, 7, 8, 12]), (17, [2, 3, 4, 6, 7, 8, 12, 13]), (18, [2, 3, 4, 6, 7, 8, 12, 13, 14]), (19, [2, 3, 4, 6, 7, 8, 12, 13, 14, 86]), (20, [2, 3, 4, 6, 7, 8, 12, 13, 14]), (21, [2, 3, 4, 6, 7, 8, 12, 13, 14]), (22, [2, 3, 4, 6, 7, 8, 12, 13, 15]), (23, [2, 3, 4, 6, 7, 8, 12, 13, 15, 118]), (24, [2, 3, 4, 6, 7, 8, 12, 13, 15]), (25, [2, 3, 4, 6, 7, 8, 12, 13, 15, 16]), (26, [2, 3, 4, 6, 7, 8, 12, 13, 15, 16, 17]), (27, [2, 3, 4, 6, 7, 8, 12, 13, 15, 16, 17, 127]), (28, [2, 3, 4, 6, 7, 8, 12, 13, 15, 16, 17]), (29, [2, 3, 4, 6, 7, 8, 12, 13, 15, 16, 17, 18]), (30, [2, 3, 4, 6, 7, 8, 12, 13, 15, 16, 17]), (31, [4, 6, 7, 20]), (32, [4, 5])], xl := [(0, [2, 3, 4, 6, 7, 8]), (1, [2, 3, 4, 6, 7, 8, 9]), (2, [2, 3, 4, 6, 7, 8, 9]), (3, [2, 3, 4, 6, 7, 8, 9, 10]), (4, [4, 6, 7, 8]), (5, [2, 3, 4, 6, 7, 8, 12]), (6, [2, 3, 4, 6, 7, 8, 12, 13]), (7, [2, 3, 4, 6, 7, 8, 12, 13, 14]), (8, [2, 3, 4, 6, 7, 8, 12]), (9, [2, 3, 4, 6, 7, 8, 12, 13, 15]), (10, [2, 3, 4, 6, 7, 8, 12, 13, 15]), (11, [2, 3, 4, 6, 7, 8, 12, 13, 15, 16, 17])], rl := [4, 5], fz := [], jp := [], lp := [(10, fun A Ko => bnd (d10 A) fun p => iterM (st10 n p.1 Ko) n p.2), (7, fun A Ko => bnd (d7 A) fun p => iterM (st7 n p.1 Ko) n p.2), (19, fun A Ko => bnd (d19 A) fun p => iterM (st19 n p.1 Ko) n p.2), (27, fun A Ko => bnd (d27 A) fun p => iterM (st27 n p.1 Ko) n p.2), (23, fun A Ko => bnd (d23 A) fun p => iterM (st23 n p.1 Ko) n p.2), (15, fun A Ko => bnd (d15 A) fun p => iterM (st15 n p.1 Ko) n p.2)] }
noncomputable def b10 : Code := (cL (cB (c2 (cB (c1 (c2 (cL (cB (c2 (c1 (c2 (c2 (c2 (c2 (c2 body)))))))))))))))
theorem d10_ok (A : Fr) (c : Int × (List (List Int)) × Int × (List (List Int)) × Int × (List (List Int)) × Int × Int × Int) (s : (List (List Int)) × Int) (h : d10 A = some (c, s)) : A = F10 c s := by
  unfold d10 at h
  split at h
  · cases h; rfl
  · cases h
theorem step10 (ρ : Type) (n : Nat) (c : Int × (List (List Int)) × Int × (List (List Int)) × Int × (List (List Int)) × Int × Int × Int) (Ko : Exit → Fr → Option ρ) (s : (List (List Int)) × Int) (nx : (Int × (List (List Int)) × Int × (List (List Int)) × Int × (List (List Int)) × Int × Int × Int) → ((List (List Int)) × Int) → Option ρ) :
    AEO (env n) (answers ρ (used n) (used n)) (tab ρ n) b10 (F10 c s) (thenO (fun A => bnd (d10 (restr (keepOf (env n) b10) A)) fun p => nx p.1 p.2) Ko) = st10 n c Ko s (nx c) := by kernel_rfl
theorem lp10_ok {ρ : Type} (n : Nat) (hl : EntsOK Tryd.prog gl (used n)) : ∀ (A : Fr) (Ko : Exit → Fr → Option ρ) (r : ρ) (K : Exit → Fr → Prop), (bnd (d10 (restr (keepOf (env n) b10) A)) fun p => iterM (st10 n p.1 Ko) n p.2) = some r → (∀ e A, Ko e A = some r → K e A) → Gx.Sem Tryd.prog (env n) (.loop b10) A K :=
  fun A Ko r K h hk => loop_cod (P := Tryd.prog) (E := env n) (T := tab ρ n) (fun _ _ _ h => answers_ok h) F10 d10 (st10 n) d10_ok (show Cov _ (env n) (tab ρ n) b10 from ⟨⟨trivial, ⟨trivial, trivial⟩⟩, ⟨⟨trivial, trivial⟩, trivial⟩⟩) (fun c Ko s nx => step10 ρ n c Ko s nx) n A Ko r K h hk
noncomputable def b7 : Code := (cL (cB (c2 (c1 (c2 (c2 (c2 (c2 (c2 body)))))))))
theorem d7_ok (A : Fr) (c : Int × (List (List Int)) × Int × (List (List Int)) × Int × (List (List Int)) × Int × Int) (s : (List (List Int)) × Int) (h : d7 A = some (c, s)) : A = F7 c s := by
  unfold d7 at h
  split at h
  · cases h; rfl
  · cases h
theorem step7 (ρ : Type) (n : Nat) (c : Int × (List (List Int)) × Int × (List (List Int)) × Int × (List (List Int)) × Int × Int) (Ko : Exit → Fr → Option ρ) (s : (List (List Int)) × Int) (nx : (Int × (List (List Int)) × Int × (List (List Int)) × Int × (List (List Int)) × Int × Int) → ((List (List Int)) × Int) → Option ρ) :
    AEO (env n) (answers ρ (used n) (used n)) (tab ρ n) b7 (F7 c s) (thenO (fun A => bnd (d7 (restr (keepOf (env n) b7) A)) fun p => nx p.1 p.2) Ko) = st7 n c Ko s (nx c) := by kernel_rfl
theorem lp7_ok {ρ : Type} (n : Nat) (hl : EntsOK Tryd.prog gl (used n)) : ∀ (A : Fr) (Ko : Exit → Fr → Option ρ) (r : ρ) (K : Exit → Fr → Prop), (bnd (d7 (restr (keepOf (env n) b7) A)) fun p => iterM (st7 n p.1 Ko) n p.2) = some r → (∀ e A, Ko e A = some r → K e A) → Gx.Sem Tryd.prog (env n) (.loop b7) A K :=
  fun A Ko r K h hk => loop_cod (P := Tryd.prog) (E := env n) (T := tab ρ n) (fun _ _ _ h => answers_ok h) F7 d7 (st7 n) d7_ok (show Cov _ (env n) (tab ρ n) b7 from ⟨⟨trivial, ⟨trivial, trivial⟩⟩, ⟨⟨trivial, lp10_ok n hl⟩, trivial⟩⟩) (fun c Ko s nx => step7 ρ n c Ko s nx) n A Ko r K h hk
noncomputable def b19 : Code := (cL (cB (c2 (c1 (c2 (cB (c1 (c2 (cL (cB (c2 (c1 (c2 (c2 (c2 (c2 (c2 (c2 body))))))))))))))))))
theorem d19_ok (A : Fr) (c : Int × (List (List Int)) × Int × (List (List Int)) × Int × (List (List Int)) × Int × Int × Int × (List Int)) (s : (List (List Int)) × Int) (h : d19 A = some (c, s)) : A = F19 c s := by
  unfold d19 at h
  split at h
  · cases h; rfl
  · cases h
theorem step19 (ρ : Type) (n : Nat) (c : Int × (List (List Int)) × Int × (List (List Int)) × Int × (List (List Int)) × Int × Int × Int × (List Int)) (Ko : Exit → Fr → Option ρ) (s : (List (List Int)) × Int) (nx : (Int × (List (List Int)) × Int × (List (List Int)) × Int × (List (List Int)) × Int × Int × Int × (List Int)) → ((List (List Int)) × Int) → Option ρ) :
    AEO (env n) (answers ρ (used n) (used n)) (tab ρ n) b19 (F19 c s) (thenO (fun A => bnd (d19 (restr (keepOf (env n) b19) A)) fun p => nx p.1 p.2) Ko) = st19 n c Ko s (nx c) := by kernel_rfl
theorem lp19_ok {ρ : Type} (n : Nat) (hl : EntsOK Tryd.prog gl (used n)) : ∀ (A : Fr) (Ko : Exit → Fr → Option ρ) (r : ρ) (K : Exit → Fr → Prop), (bnd (d19 (restr (keepOf (env n) b19) A)) fun p => iterM (st19 n p.1 Ko) n p.2) = some r → (∀ e A, Ko e A = some r → K e A) → Gx.Sem Tryd.prog (env n) (.loop b19) A K :=
  fun A Ko r K h hk => loop_cod (P := Tryd.prog) (E := env n) (T := tab ρ n) (fun _ _ _ h => answers_ok h) F19 d19 (st19 n) d19_ok (show Cov _ (env n) (tab ρ n) b19 from ⟨⟨trivial, ⟨trivial, trivial⟩⟩, ⟨trivial, trivial⟩⟩) (fun c Ko s nx => step19 ρ n c Ko s nx) n A Ko r K h hk
noncomputable def b27 : Code := (cL (cB (c2 (c2 (cB (c1 (c2 (cL (cB (c2 (c2 (c2 (cB (c1 (c2 (cL (cB (c2 (c1 (c2 (c2 (c2 (c2 (c2 (c2 body)))))))))))))))))))))))))
theorem d27_ok (A : Fr) (c : Int × (List (List Int)) × Int × (List (List Int)) × Int × (List (List Int)) × Int × Int × Int × (List Int) × Int × (List Int)) (s : (List (List Int)) × Int) (h : d27 A = some (c, s)) : A = F27 c s := by
  unfold d27 at h
  split at h
  · cases h; rfl
  · cases h
theorem step27 (ρ : Type) (n : Nat) (c : Int × (List (List Int)) × Int × (List (List Int)) × Int × (List (List Int)) × Int × Int × Int × (List Int) × Int × (List Int)) (Ko : Exit → Fr → Option ρ) (s : (List (List Int)) × Int) (nx : (Int × (List (List Int)) × Int × (List (List Int)) × Int × (List (List Int)) × Int × Int × Int × (List Int) × Int × (List Int)) → ((List (List Int)) × Int) → Option ρ) :
    AEO (env n) (answers ρ (used n) (used n)) (tab ρ n) b27 (F27 c s) (thenO (fun A => bnd (d27 (restr (keepOf (env n) b27) A)) fun p => nx p.1 p.2) Ko) = st27 n c Ko s (nx c) := by kernel_rfl
theorem lp27_ok {ρ : Type} (n : Nat) (hl : EntsOK Tryd.prog gl (used n)) : ∀ (A : Fr) (Ko : Exit → Fr → Option ρ) (r : ρ) (K : Exit → Fr → Prop), (bnd (d27 (restr (keepOf (env n) b27) A)) fun p => iterM (st27 n p.1 Ko) n p.2) = some r → (∀ e A, Ko e A = some r → K e A) → Gx.Sem Tryd.prog (env n) (.loop b27) A K :=
  fun A Ko r K h hk => loop_cod (P := Tryd.prog) (E := env n) (T := tab ρ n) (fun _ _ _ h => answers_ok h) F27 d27 (st27 n) d27_ok (show Cov _ (env n) (tab ρ n) b27 from ⟨⟨trivial, ⟨trivial, trivial⟩⟩, ⟨⟨trivial, trivial⟩, trivial⟩⟩) (fun c Ko s nx => step27 ρ n c Ko s nx) n A Ko r K h hk
noncomputable def b23 : Code := (cL (cB (c2 (c2 (c2 (cB (c1 (c2 (cL (cB (c2 (c1 (c2 (c2 (c2 (c2 (c2 (c2 body))))))))))))))))))
theorem d23_ok (A : Fr) (c : Int × (List (List Int)) × Int × (List (List Int)) × Int × (List (List Int)) × Int × Int × Int × (List Int)) (s : (List (List Int)) × Int) (h : d23 A = some (c, s)) : A = F23 c s := by
  unfold d23 at h
  split at h
  · cases h; rfl
  · cases h
theorem step23 (ρ : Type) (n : Nat) (c : Int × (List (List Int)) × Int × (List (List Int)) × Int × (List (List Int)) × Int × Int × Int × (List Int)) (Ko : Exit → Fr → Option ρ) (s : (List (List Int)) × Int) (nx : (Int × (List (List Int)) × Int × (List (List Int)) × Int × (List (List Int)) × Int × Int × Int × (List Int)) → ((List (List Int)) × Int) → Option ρ) :
    AEO (env n) (answers ρ (used n) (used n)) (tab ρ n) b23 (F23 c s) (thenO (fun A => bnd (d23 (restr (keepOf (env n) b23) A)) fun p => nx p.1 p.2) Ko) = st23 n c Ko s (nx c) := by kernel_rfl
theorem lp23_ok {ρ : Type} (n : Nat) (hl : EntsOK Tryd.prog gl (used n)) : ∀ (A : Fr) (Ko : Exit → Fr → Option ρ) (r : ρ) (K : Exit → Fr → Prop), (bnd (d23 (restr (keepOf (env n) b23) A)) fun p => iterM (st23 n p.1 Ko) n p.2) = some r → (∀ e A, Ko e A = some r → K e A) → Gx.Sem Tryd.prog (env n) (.loop b23) A K :=
  fun A Ko r K h hk => loop_cod (P := Tryd.prog) (E := env n) (T := tab ρ n) (fun _ _ _ h => answers_ok h) F23 d23 (st23 n) d23_ok (show Cov _ (env n) (tab ρ n) b23 from ⟨⟨trivial, ⟨trivial, trivial⟩⟩, ⟨⟨trivial, ⟨trivial, lp27_ok n hl⟩⟩, trivial⟩⟩) (fun c Ko s nx => step23 ρ n c Ko s nx) n A Ko r K h hk
noncomputable def b15 : Code := (cL (cB (c2 (c1 (c2 (c2 (c2 (c2 (c2 (c2 body))))))))))
theorem d15_ok (A : Fr) (c : Int × (List (List Int)) × Int × (List (List Int)) × Int × (List (List Int)) × Int × Int) (s : (List (List Int)) × Int) (h : d15 A = some (c, s)) : A = F15 c s := by
  unfold d15 at h
  split at h
  · cases h; rfl
  · cases h
theorem step15 (ρ : Type) (n : Nat) (c : Int × (List (List Int)) × Int × (List (List Int)) × Int × (List (List Int)) × Int × Int) (Ko : Exit → Fr → Option ρ) (s : (List (List Int)) × Int) (nx : (Int × (List (List Int)) × Int × (List (List Int)) × Int × (List (List Int)) × Int × Int) → ((List (List Int)) × Int) → Option ρ) :
    AEO (env n) (answers ρ (used n) (used n)) (tab ρ n) b15 (F15 c s) (thenO (fun A => bnd (d15 (restr (keepOf (env n) b15) A)) fun p => nx p.1 p.2) Ko) = st15 n c Ko s (nx c) := by kernel_rfl
theorem lp15_ok {ρ : Type} (n : Nat) (hl : EntsOK Tryd.prog gl (used n)) : ∀ (A : Fr) (Ko : Exit → Fr → Option ρ) (r : ρ) (K : Exit → Fr → Prop), (bnd (d15 (restr (keepOf (env n) b15) A)) fun p => iterM (st15 n p.1 Ko) n p.2) = some r → (∀ e A, Ko e A = some r → K e A) → Gx.Sem Tryd.prog (env n) (.loop b15) A K :=
  fun A Ko r K h hk => loop_cod (P := Tryd.prog) (E := env n) (T := tab ρ n) (fun _ _ _ h => answers_ok h) F15 d15 (st15 n) d15_ok (show Cov _ (env n) (tab ρ n) b15 from ⟨⟨trivial, ⟨trivial, trivial⟩⟩, ⟨⟨trivial, ⟨⟨trivial, lp19_ok n hl⟩, ⟨trivial, lp23_ok n hl⟩⟩⟩, trivial⟩⟩) (fun c Ko s nx => step15 ρ n c Ko s nx) n A Ko r K h hk
def enc (a : Int × (List (List Int)) × Int × (List (List Int))) : List AV := [.ag [.pv (.int .i64 a.1), .ls (.rows a.2.1)], .ag [.pv (.int .i64 a.2.2.1), .ls (.rows a.2.2.2)]]
def dec : List AV → Option (Int × (List (List Int)) × Int × (List (List Int)))
  | [.ag [.pv (.int .i64 toArray0_0), .ls (.rows toArray0_1)], .ag [.pv (.int .i64 t1_0), .ls (.rows t1_1)]] => some (toArray0_0, toArray0_1, t1_0, t1_1)
  | _ => none
def emb (b : Int × (List (List Int)) × Int) : AV × List AV := (.tp [.ag [.pv (.int .i64 b.1), .sl (.rows b.2.1)], .pv (.int .i64 b.2.2)], [])
def dr : AV → List AV → Option (Int × (List (List Int)) × Int)
  | .tp [.ag [.pv (.int .i64 r0), .sl (.rows r1)], .pv (.int .i64 r2)], [] => some (r0, r1, r2)
  | _, _ => none
theorem dec_ok (vs : List AV) (a : Int × (List (List Int)) × Int × (List (List Int))) (h : dec vs = some a) : vs = enc a := by
  unfold dec at h
  split at h
  · cases h; rfl
  · cases h
theorem dr_ok (v : AV) (o : List AV) (b : Int × (List (List Int)) × Int) (h : dr v o = some b) : emb b = (v, o) := by
  unfold dr at h
  split at h
  · cases h; rfl
  · cases h
noncomputable def ent (n : Nat) : Ent := { f := 31, ms := [.lend, .lend], α := Int × (List (List Int)) × Int × (List (List Int)), β := Int × (List (List Int)) × Int, dec := dec, enc := enc, emb := emb, m := fun a => Gm.ref2_ProductOf n a.1 a.2.1 a.2.2.1 a.2.2.2, hdec := dec_ok }
theorem run (n : Nat) (a : Int × (List (List Int)) × Int × (List (List Int))) : AEO (env n) (answers (Int × (List (List Int)) × Int) (used n) (used n)) (tab (Int × (List (List Int)) × Int) n) body (frameOf (enc a) 0) (bodyO (env n) Tryd.f31.results.toList (enc a) dr) = (ent n).m a := by kernel_rfl
theorem ok (n : Nat) (hl : EntsOK Tryd.prog gl (used n)) : EntOK Tryd.prog gl (ent n) :=
  fnO_sound (P := Tryd.prog) (e := ent n) (fn := Tryd.f31) (body := body) (l := used n) (te := te) (gl := gl) (n := ⟨2, 182⟩) (cut := []) (keep := keep) (T := tab (Int × (List (List Int)) × Int) n) (dr := dr) Tryd.func31 (by kernel_rfl) (by kernel_rfl) te_ok (by kernel_rfl) (by kernel_rfl) hl (show Cov _ (env n) (tab (Int × (List (List Int)) × Int) n) body from ⟨trivial, ⟨trivial, ⟨trivial, ⟨⟨trivial, ⟨⟨trivial, trivial⟩, trivial⟩⟩, ⟨trivial, ⟨⟨trivial, lp7_ok n hl⟩, ⟨⟨trivial, lp15_ok n hl⟩, ⟨trivial, ⟨trivial, trivial⟩⟩⟩⟩⟩⟩⟩⟩⟩) dr_ok (fun a => ⟨rfl, rfl⟩) (run n)
theorem all_ok (n : Nat) : EntOK Tryd.prog gl (ent n) := ok n ⟨W_ref1_PermOfRank.all_ok n, W_ref2_InOrder.all_ok n, trivial⟩
end W_ref2_ProductOf
namespace W_law2_TripleTurns
noncomputable def body : Code := Tryd.f6.body.getD .skip
def keep : List (Nat × List Nat) := []
noncomputable def used (n : Nat) : List Ent := [W_ref2_TripleFault.ent n, W_triple_Check.ent n, W_triple_Double.ent n, W_triple_Product.ent n, W_ref2_Designs.ent n, W_ref2_DoubleOf.ent n, W_ref2_ProductOf.ent n]
noncomputable def env (n : Nat) : Env := envOf te gl (used n) ⟨2, 101⟩ [] keep
noncomputable def tab (ρ : Type) (_n : Nat) : Tab ρ := { live := [(0, [2, 3]), (1, [2, 3, 5]), (2, [2, 3, 5, 6]), (3, [2, 3, 5, 23]), (4, [4]), (5, [2, 3, 5, 7, 8]), (6, [2, 3, 5, 7, 8, 9, 10]), (7, [2, 3, 5, 7, 8, 9, 10, 11]), (8, [2, 3, 5, 7, 8, 9, 10, 11, 37]), (9, [5, 8, 9, 10, 11, 12]), (10, [5, 8, 10, 12, 13]), (11, [4]), (12, [2, 3, 7, 8, 9, 10, 11, 14, 15]), (13, [2, 3, 8, 9, 10, 11, 14, 15, 16]), (14, [2, 3, 9, 10, 11, 14, 72]), (15, [4]), (16, [2, 3, 5, 9, 10, 11, 14]), (17, [2, 3, 5, 9, 10, 11, 14, 76]), (18, [5, 10, 16]), (19, [4]), (20, [9, 10, 14, 15]), (21, [10, 15, 16]), (22, [4])], xl := [], rl := [4], fz := [], jp := [], lp := [] }
def enc (a : Int × (List (List Int)) × Int × (List (List Int))) : List AV := [.ag [.pv (.int .i64 a.1), .ls (.rows a.2.1)], .ag [.pv (.int .i64 a.2.2.1), .ls (.rows a.2.2.2)]]
def dec : List AV → Option (Int × (List (List Int)) × Int × (List (List Int)))
  | [.ag [.pv (.int .i64 toArray0_0), .ls (.rows toArray0_1)], .ag [.pv (.int .i64 t1_0), .ls (.rows t1_1)]] => some (toArray0_0, toArray0_1, t1_0, t1_1)
  | _ => none
def emb (b : Bool) : AV × List AV := (.pv (.bool b), [])
def dr : AV → List AV → Option (Bool)
  | .pv (.bool r0), [] => some r0
  | _, _ => none
theorem dec_ok (vs : List AV) (a : Int × (List (List Int)) × Int × (List (List Int))) (h : dec vs = some a) : vs = enc a := by
  unfold dec at h
  split at h
  · cases h; rfl
  · cases h
theorem dr_ok (v : AV) (o : List AV) (b : Bool) (h : dr v o = some b) : emb b = (v, o) := by
  unfold dr at h
  split at h
  · cases h; rfl
  · cases h
noncomputable def ent (n : Nat) : Ent := { f := 6, ms := [.lend, .lend], α := Int × (List (List Int)) × Int × (List (List Int)), β := Bool, dec := dec, enc := enc, emb := emb, m := fun a => Gm.law2_TripleTurns n a.1 a.2.1 a.2.2.1 a.2.2.2, hdec := dec_ok }
theorem run (n : Nat) (a : Int × (List (List Int)) × Int × (List (List Int))) : AEO (env n) (answers (Bool) (used n) (used n)) (tab (Bool) n) body (frameOf (enc a) 0) (bodyO (env n) Tryd.f6.results.toList (enc a) dr) = (ent n).m a := by kernel_rfl
theorem ok (n : Nat) (hl : EntsOK Tryd.prog gl (used n)) : EntOK Tryd.prog gl (ent n) :=
  fnO_sound (P := Tryd.prog) (e := ent n) (fn := Tryd.f6) (body := body) (l := used n) (te := te) (gl := gl) (n := ⟨2, 101⟩) (cut := []) (keep := keep) (T := tab (Bool) n) (dr := dr) Tryd.func6 (by kernel_rfl) (by kernel_rfl) te_ok (by kernel_rfl) (by kernel_rfl) hl (show Cov _ (env n) (tab (Bool) n) body from ⟨trivial, ⟨trivial, ⟨trivial, ⟨⟨trivial, ⟨⟨trivial, trivial⟩, trivial⟩⟩, ⟨trivial, ⟨trivial, ⟨trivial, ⟨⟨trivial, ⟨⟨trivial, ⟨trivial, ⟨trivial, trivial⟩⟩⟩, trivial⟩⟩, ⟨trivial, ⟨trivial, ⟨⟨trivial, ⟨⟨trivial, trivial⟩, trivial⟩⟩, ⟨trivial, ⟨⟨trivial, ⟨⟨trivial, ⟨trivial, trivial⟩⟩, trivial⟩⟩, ⟨trivial, ⟨trivial, ⟨trivial, trivial⟩⟩⟩⟩⟩⟩⟩⟩⟩⟩⟩⟩⟩⟩⟩⟩) dr_ok (fun a => ⟨rfl, rfl⟩) (run n)
theorem all_ok (n : Nat) : EntOK Tryd.prog gl (ent n) := ok n ⟨W_ref2_TripleFault.all_ok n, W_triple_Check.all_ok n, W_triple_Double.all_ok n, W_triple_Product.all_ok n, W_ref2_Designs.all_ok n, W_ref2_DoubleOf.all_ok n, W_ref2_ProductOf.all_ok n, trivial⟩
end W_law2_TripleTurns
namespace W_triple_system_bose
noncomputable def body : Code := Tryd.f110.body.getD .skip
def keep : List (Nat × List Nat) := [(2, [0, 1, 4, 12, 13]), (6, [0, 1, 4, 5, 6, 12, 13]), (10, [0, 1, 4, 5, 6, 7, 12, 13, 43])]
noncomputable def used (n : Nat) : List Ent := [W_triple_lister_add.ent n]
noncomputable def env (n : Nat) : Env := envOf te gl (used n) ⟨4, 69⟩ [] keep
def F10 (c : Int × Int × Int × Int × Int × Int × Int) (s : (List (List Int)) × Int × Int) : Fr := [(0, .bx [.ow 22 (.rows s.1), .pv (.int .i64 s.2.1)]), (1, .pv (.int .i64 c.1)), (4, .pv (.int .i64 c.2.1)), (5, .pv (.int .i64 c.2.2.1)), (6, .pv (.int .i64 c.2.2.2.1)), (7, .pv (.int .i64 c.2.2.2.2.1)), (12, .pv (.int .i64 c.2.2.2.2.2.1)), (13, .pv (.int .i64 c.2.2.2.2.2.2)), (43, .pv (.int .i64 s.2.2))]
def d10 : Fr → Option ((Int × Int × Int × Int × Int × Int × Int) × ((List (List Int)) × Int × Int))
  | [(0, .bx [.ow 22 (.rows toArray0_0), .pv (.int .i64 toArray0_1)]), (1, .pv (.int .i64 t1)), (4, .pv (.int .i64 t4)), (5, .pv (.int .i64 t5)), (6, .pv (.int .i64 t6)), (7, .pv (.int .i64 t7)), (12, .pv (.int .i64 t12)), (13, .pv (.int .i64 t13)), (43, .pv (.int .i64 t43))] => some ((t1, t4, t5, t6, t7, t12, t13), (toArray0_0, toArray0_1, t43))
  | _ => none
def st10 {ρ : Type} (n : Nat) (c : Int × Int × Int × Int × Int × Int × Int) (Ko : Exit → Fr → Option ρ) (s : (List (List Int)) × Int × Int) (nx : ((List (List Int)) × Int × Int) → Option ρ) : Option ρ :=
  Gm.triple_system_bose_s10 n c.1 c.2.1 c.2.2.1 c.2.2.2.1 c.2.2.2.2.1 c.2.2.2.2.2.1 c.2.2.2.2.2.2 s.1 s.2.1 s.2.2 (fun a0 a1 a2 => nx (a0, a1, a2)) (fun (y0 : List (List Int)) (y1 : Int) => Ko (.exit 4) [(0, .bx [.ow 22 (.rows y0), .pv (.int .i64 y1)]), (1, .pv (.int .i64 c.1)), (4, .pv (.int .i64 c.2.1)), (5, .pv (.int .i64 c.2.2.1)), (6, .pv (.int .i64 c.2.2.2.1)), (12, .pv (.int .i64 c.2.2.2.2.2.1)), (13, .pv (.int .i64 c.2.2.2.2.2.2))])
def F6 (c : Int × Int × Int × Int × Int) (s : (List (List Int)) × Int × Int) : Fr := [(0, .bx [.ow 22 (.rows s.1), .pv (.int .i64 s.2.1)]), (1, .pv (.int .i64 c.1)), (4, .pv (.int .i64 c.2.1)), (5, .pv (.int .i64 c.2.2.1)), (6, .pv (.int .i64 s.2.2)), (12, .pv (.int .i64 c.2.2.2.1)), (13, .pv (.int .i64 c.2.2.2.2))]
def d6 : Fr → Option ((Int × Int × Int × Int × Int) × ((List (List Int)) × Int × Int))
  | [(0, .bx [.ow 22 (.rows toArray0_0), .pv (.int .i64 toArray0_1)]), (1, .pv (.int .i64 t1)), (4, .pv (.int .i64 t4)), (5, .pv (.int .i64 t5)), (6, .pv (.int .i64 t6)), (12, .pv (.int .i64 t12)), (13, .pv (.int .i64 t13))] => some ((t1, t4, t5, t12, t13), (toArray0_0, toArray0_1, t6))
  | _ => none
def st6 {ρ : Type} (n : Nat) (c : Int × Int × Int × Int × Int) (Ko : Exit → Fr → Option ρ) (s : (List (List Int)) × Int × Int) (nx : ((List (List Int)) × Int × Int) → Option ρ) : Option ρ :=
  Gm.triple_system_bose_s6 n c.1 c.2.1 c.2.2.1 c.2.2.2.1 c.2.2.2.2 s.1 s.2.1 s.2.2 (fun a0 a1 a2 => nx (a0, a1, a2)) (fun (y0 : List (List Int)) (y1 : Int) => Ko (.exit 2) [(0, .bx [.ow 22 (.rows y0), .pv (.int .i64 y1)]), (1, .pv (.int .i64 c.1)), (4, .pv (.int .i64 c.2.1)), (12, .pv (.int .i64 c.2.2.2.1)), (13, .pv (.int .i64 c.2.2.2.2))])
def F2 (c : Int × Int × Int) (s : (List (List Int)) × Int × Int) : Fr := [(0, .bx [.ow 22 (.rows s.1), .pv (.int .i64 s.2.1)]), (1, .pv (.int .i64 c.1)), (4, .pv (.int .i64 c.2.1)), (12, .pv (.int .i64 c.2.2)), (13, .pv (.int .i64 s.2.2))]
def d2 : Fr → Option ((Int × Int × Int) × ((List (List Int)) × Int × Int))
  | [(0, .bx [.ow 22 (.rows toArray0_0), .pv (.int .i64 toArray0_1)]), (1, .pv (.int .i64 t1)), (4, .pv (.int .i64 t4)), (12, .pv (.int .i64 t12)), (13, .pv (.int .i64 t13))] => some ((t1, t4, t12), (toArray0_0, toArray0_1, t13))
  | _ => none
def st2 {ρ : Type} (n : Nat) (c : Int × Int × Int) (Ko : Exit → Fr → Option ρ) (s : (List (List Int)) × Int × Int) (nx : ((List (List Int)) × Int × Int) → Option ρ) : Option ρ :=
  Gm.triple_system_bose_s2 n c.1 c.2.1 c.2.2 s.1 s.2.1 s.2.2 (fun a0 a1 a2 => nx (a0, a1, a2)) (fun (y0 : List (List Int)) (y1 : Int) => Ko (.exit 0) [(0, .bx [.ow 22 (.rows y0), .pv (.int .i64 y1)])])
noncomputable def tab (ρ : Type) (n : Nat) : Tab ρ := { live := [(0, [0, 1, 4]), (1, [0, 1, 4, 12, 13]), (2, [0, 1, 4, 12, 13, 14]), (3, [0, 1, 4, 5, 12, 13]), (4, [0, 1, 4, 5, 12, 13]), (5, [0, 1, 4, 5, 6, 12, 13]), (6, [0, 1, 4, 5, 6, 12, 13, 32]), (7, [0, 1, 4, 5, 6, 12, 13]), (8, [0, 1, 4, 5, 6, 7, 12, 13]), (9, [0, 1, 4, 5, 6, 7, 12, 13, 43]), (10, [0, 1, 4, 5, 6, 7, 12, 13, 43, 44]), (11, [0, 1, 4, 5, 6, 7, 8, 12, 13, 43]), (12, [0, 1, 4, 5, 6, 7, 12, 13, 43]), (13, [0, 1, 4, 5, 6, 7, 12, 13, 43]), (14, [0, 1, 4, 12, 13])], xl := [(0, [0]), (1, [0, 1, 4, 12, 13]), (2, [0, 1, 4, 12, 13]), (3, [0, 1, 4, 5, 6, 12, 13]), (4, [0, 1, 4, 5, 6, 12, 13]), (5, [0, 1, 4, 5, 6, 7, 12, 13, 43])], rl := [0], fz := [], jp := [], lp := [(10, fun A Ko => bnd (d10 A) fun p => iterM (st10 n p.1 Ko) n p.2), (6, fun A Ko => bnd (d6 A) fun p => iterM (st6 n p.1 Ko) n p.2), (2, fun A Ko => bnd (d2 A) fun p => iterM (st2 n p.1 Ko) n p.2)] }
noncomputable def b10 : Code := (cL (cB (c2 (c2 (cB (c1 (c2 (cL (cB (c2 (c2 (c2 (cB (c1 (c2 (c2 (cL (cB (c2 (c2 body))))))))))))))))))))
theorem d10_ok (A : Fr) (c : Int × Int × Int × Int × Int × Int × Int) (s : (List (List Int)) × Int × Int) (h : d10 A = some (c, s)) : A = F10 c s := by
  unfold d10 at h
  split at h
  · cases h; rfl
  · cases h
theorem step10 (ρ : Type) (n : Nat) (c : Int × Int × Int × Int × Int × Int × Int) (Ko : Exit → Fr → Option ρ) (s : (List (List Int)) × Int × Int) (nx : (Int × Int × Int × Int × Int × Int × Int) → ((List (List Int)) × Int × Int) → Option ρ) :
    AEO (env n) (answers ρ (used n) (used n)) (tab ρ n) b10 (F10 c s) (thenO (fun A => bnd (d10 (restr (keepOf (env n) b10) A)) fun p => nx p.1 p.2) Ko) = st10 n c Ko s (nx c) := by kernel_rfl
theorem lp10_ok {ρ : Type} (n : Nat) (hl : EntsOK Tryd.prog gl (used n)) : ∀ (A : Fr) (Ko : Exit → Fr → Option ρ) (r : ρ) (K : Exit → Fr → Prop), (bnd (d10 (restr (keepOf (env n) b10) A)) fun p => iterM (st10 n p.1 Ko) n p.2) = some r → (∀ e A, Ko e A = some r → K e A) → Gx.Sem Tryd.prog (env n) (.loop b10) A K :=
  fun A Ko r K h hk => loop_cod (P := Tryd.prog) (E := env n) (T := tab ρ n) (fun _ _ _ h => answers_ok h) F10 d10 (st10 n) d10_ok (show Cov _ (env n) (tab ρ n) b10 from ⟨trivial, ⟨⟨trivial, trivial⟩, ⟨⟨trivial, trivial⟩, trivial⟩⟩⟩) (fun c Ko s nx => step10 ρ n c Ko s nx) n A Ko r K h hk
noncomputable def b6 : Code := (cL (cB (c2 (c2 (c2 (cB (c1 (c2 (c2 (cL (cB (c2 (c2 body)))))))))))))
theorem d6_ok (A : Fr) (c : Int × Int × Int × Int × Int) (s : (List (List Int)) × Int × Int) (h : d6 A = some (c, s)) : A = F6 c s := by
  unfold d6 at h
  split at h
  · cases h; rfl
  · cases h
theorem step6 (ρ : Type) (n : Nat) (c : Int × Int × Int × Int × Int) (Ko : Exit → Fr → Option ρ) (s : (List (List Int)) × Int × Int) (nx : (Int × Int × Int × Int × Int) → ((List (List Int)) × Int × Int) → Option ρ) :
    AEO (env n) (answers ρ (used n) (used n)) (tab ρ n) b6 (F6 c s) (thenO (fun A => bnd (d6 (restr (keepOf (env n) b6) A)) fun p => nx p.1 p.2) Ko) = st6 n c Ko s (nx c) := by kernel_rfl
theorem lp6_ok {ρ : Type} (n : Nat) (hl : EntsOK Tryd.prog gl (used n)) : ∀ (A : Fr) (Ko : Exit → Fr → Option ρ) (r : ρ) (K : Exit → Fr → Prop), (bnd (d6 (restr (keepOf (env n) b6) A)) fun p => iterM (st6 n p.1 Ko) n p.2) = some r → (∀ e A, Ko e A = some r → K e A) → Gx.Sem Tryd.prog (env n) (.loop b6) A K :=
  fun A Ko r K h hk => loop_cod (P := Tryd.prog) (E := env n) (T := tab ρ n) (fun _ _ _ h => answers_ok h) F6 d6 (st6 n) d6_ok (show Cov _ (env n) (tab ρ n) b6 from ⟨⟨trivial, ⟨trivial, trivial⟩⟩, ⟨⟨trivial, ⟨trivial, lp10_ok n hl⟩⟩, trivial⟩⟩) (fun c Ko s nx => step6 ρ n c Ko s nx) n A Ko r K h hk
noncomputable def b2 : Code := (cL (cB (c2 (c2 body))))
theorem d2_ok (A : Fr) (c : Int × Int × Int) (s : (List (List Int)) × Int × Int) (h : d2 A = some (c, s)) : A = F2 c s := by
  unfold d2 at h
  split at h
  · cases h; rfl
  · cases h
theorem step2 (ρ : Type) (n : Nat) (c : Int × Int × Int) (Ko : Exit → Fr → Option ρ) (s : (List (List Int)) × Int × Int) (nx : (Int × Int × Int) → ((List (List Int)) × Int × Int) → Option ρ) :
    AEO (env n) (answers ρ (used n) (used n)) (tab ρ n) b2 (F2 c s) (thenO (fun A => bnd (d2 (restr (keepOf (env n) b2) A)) fun p => nx p.1 p.2) Ko) = st2 n c Ko s (nx c) := by kernel_rfl
theorem lp2_ok {ρ : Type} (n : Nat) (hl : EntsOK Tryd.prog gl (used n)) : ∀ (A : Fr) (Ko : Exit → Fr → Option ρ) (r : ρ) (K : Exit → Fr → Prop), (bnd (d2 (restr (keepOf (env n) b2) A)) fun p => iterM (st2 n p.1 Ko) n p.2) = some r → (∀ e A, Ko e A = some r → K e A) → Gx.Sem Tryd.prog (env n) (.loop b2) A K :=
  fun A Ko r K h hk => loop_cod (P := Tryd.prog) (E := env n) (T := tab ρ n) (fun _ _ _ h => answers_ok h) F2 d2 (st2 n) d2_ok (show Cov _ (env n) (tab ρ n) b2 from ⟨trivial, ⟨⟨trivial, trivial⟩, ⟨⟨trivial, ⟨trivial, ⟨trivial, lp6_ok n hl⟩⟩⟩, trivial⟩⟩⟩) (fun c Ko s nx => step2 ρ n c Ko s nx) n A Ko r K h hk
def enc (a : (List (List Int)) × Int × Int) : List AV := [.bx [.ow 22 (.rows a.1), .pv (.int .i64 a.2.1)], .pv (.int .i64 a.2.2)]
def dec : List AV → Option ((List (List Int)) × Int × Int)
  | [.bx [.ow 22 (.rows toArray0_0), .pv (.int .i64 toArray0_1)], .pv (.int .i64 t1)] => some (toArray0_0, toArray0_1, t1)
  | _ => none
def emb (b : (List (List Int)) × Int) : AV × List AV := (.tp [], [.bx [.ow 22 (.rows b.1), .pv (.int .i64 b.2)]])
def dr : AV → List AV → Option ((List (List Int)) × Int)
  | .tp [], [.bx [.ow 22 (.rows r0), .pv (.int .i64 r1)]] => some (r0, r1)
  | _, _ => none
theorem dec_ok (vs : List AV) (a : (List (List Int)) × Int × Int) (h : dec vs = some a) : vs = enc a := by
  unfold dec at h
  split at h
  · cases h; rfl
  · cases h
theorem dr_ok (v : AV) (o : List AV) (b : (List (List Int)) × Int) (h : dr v o = some b) : emb b = (v, o) := by
  unfold dr at h
  split at h
  · cases h; rfl
  · cases h
noncomputable def ent (n : Nat) : Ent := { f := 110, ms := [.io, .lend], α := (List (List Int)) × Int × Int, β := (List (List Int)) × Int, dec := dec, enc := enc, emb := emb, m := fun a => Gm.triple_system_bose n a.1 a.2.1 a.2.2, hdec := dec_ok }
theorem run (n : Nat) (a : (List (List Int)) × Int × Int) : AEO (env n) (answers ((List (List Int)) × Int) (used n) (used n)) (tab ((List (List Int)) × Int) n) body (frameOf (enc a) 0) (bodyO (env n) Tryd.f110.results.toList (enc a) dr) = (ent n).m a := by kernel_rfl
theorem ok (n : Nat) (hl : EntsOK Tryd.prog gl (used n)) : EntOK Tryd.prog gl (ent n) :=
  fnO_sound (P := Tryd.prog) (e := ent n) (fn := Tryd.f110) (body := body) (l := used n) (te := te) (gl := gl) (n := ⟨4, 69⟩) (cut := []) (keep := keep) (T := tab ((List (List Int)) × Int) n) (dr := dr) Tryd.func110 (by kernel_rfl) (by kernel_rfl) te_ok (by kernel_rfl) (by kernel_rfl) hl (show Cov _ (env n) (tab ((List (List Int)) × Int) n) body from ⟨trivial, ⟨trivial, lp2_ok n hl⟩⟩) dr_ok (fun a => ⟨rfl, rfl⟩) (run n)
theorem all_ok (n : Nat) : EntOK Tryd.prog gl (ent n) := ok n ⟨W_triple_lister_add.all_ok n, trivial⟩
end W_triple_system_bose
namespace W_triple_system_skolem
noncomputable def body : Code := Tryd.f111.body.getD .skip
def keep : List (Nat × List Nat) := [(2, [0, 1, 4, 13, 14]), (6, [0, 1, 4, 5, 13, 14, 29]), (12, [0, 1, 4, 54, 55]), (15, [0, 1, 4, 7, 8, 54, 55]), (22, [0, 1, 4, 7, 8, 9, 54, 55, 80])]
noncomputable def used (n : Nat) : List Ent := [W_triple_lister_add.ent n]
noncomputable def env (n : Nat) : Env := envOf te gl (used n) ⟨4, 106⟩ [] keep
def F6 (c : Int × Int × Int × Int × Int) (s : (List (List Int)) × Int × Int) : Fr := [(0, .bx [.ow 22 (.rows s.1), .pv (.int .i64 s.2.1)]), (1, .pv (.int .i64 c.1)), (4, .pv (.int .i64 c.2.1)), (5, .pv (.int .i64 c.2.2.1)), (13, .pv (.int .i64 c.2.2.2.1)), (14, .pv (.int .i64 c.2.2.2.2)), (29, .pv (.int .i64 s.2.2))]
def d6 : Fr → Option ((Int × Int × Int × Int × Int) × ((List (List Int)) × Int × Int))
  | [(0, .bx [.ow 22 (.rows toArray0_0), .pv (.int .i64 toArray0_1)]), (1, .pv (.int .i64 t1)), (4, .pv (.int .i64 t4)), (5, .pv (.int .i64 t5)), (13, .pv (.int .i64 t13)), (14, .pv (.int .i64 t14)), (29, .pv (.int .i64 t29))] => some ((t1, t4, t5, t13, t14), (toArray0_0, toArray0_1, t29))
  | _ => none
def st6 {ρ : Type} (n : Nat) (c : Int × Int × Int × Int × Int) (Ko : Exit → Fr → Option ρ) (s : (List (List Int)) × Int × Int) (nx : ((List (List Int)) × Int × Int) → Option ρ) : Option ρ :=
  Gm.triple_system_skolem_s6 n c.1 c.2.1 c.2.2.1 c.2.2.2.1 c.2.2.2.2 s.1 s.2.1 s.2.2 (fun a0 a1 a2 => nx (a0, a1, a2)) (fun (y0 : List (List Int)) (y1 : Int) => Ko (.exit 2) [(0, .bx [.ow 22 (.rows y0), .pv (.int .i64 y1)]), (1, .pv (.int .i64 c.1)), (4, .pv (.int .i64 c.2.1)), (13, .pv (.int .i64 c.2.2.2.1)), (14, .pv (.int .i64 c.2.2.2.2))])
def F2 (c : Int × Int × Int) (s : (List (List Int)) × Int × Int) : Fr := [(0, .bx [.ow 22 (.rows s.1), .pv (.int .i64 s.2.1)]), (1, .pv (.int .i64 c.1)), (4, .pv (.int .i64 c.2.1)), (13, .pv (.int .i64 c.2.2)), (14, .pv (.int .i64 s.2.2))]
def d2 : Fr → Option ((Int × Int × Int) × ((List (List Int)) × Int × Int))
  | [(0, .bx [.ow 22 (.rows toArray0_0), .pv (.int .i64 toArray0_1)]), (1, .pv (.int .i64 t1)), (4, .pv (.int .i64 t4)), (13, .pv (.int .i64 t13)), (14, .pv (.int .i64 t14))] => some ((t1, t4, t13), (toArray0_0, toArray0_1, t14))
  | _ => none
def st2 {ρ : Type} (n : Nat) (c : Int × Int × Int) (Ko : Exit → Fr → Option ρ) (s : (List (List Int)) × Int × Int) (nx : ((List (List Int)) × Int × Int) → Option ρ) : Option ρ :=
  Gm.triple_system_skolem_s2 n c.1 c.2.1 c.2.2 s.1 s.2.1 s.2.2 (fun a0 a1 a2 => nx (a0, a1, a2)) (fun (y0 : List (List Int)) (y1 : Int) => Ko (.exit 0) [(0, .bx [.ow 22 (.rows y0), .pv (.int .i64 y1)]), (1, .pv (.int .i64 c.1)), (4, .pv (.int .i64 c.2.1))])
def F22 (c : Int × Int × Int × Int × Int × Int × Int) (s : (List (List Int)) × Int × Int) : Fr := [(0, .bx [.ow 22 (.rows s.1), .pv (.int .i64 s.2.1)]), (1, .pv (.int .i64 c.1)), (4, .pv (.int .i64 c.2.1)), (7, .pv (.int .i64 c.2.2.1)), (8, .pv (.int .i64 c.2.2.2.1)), (9, .pv (.int .i64 c.2.2.2.2.1)), (54, .pv (.int .i64 c.2.2.2.2.2.1)), (55, .pv (.int .i64 c.2.2.2.2.2.2)), (80, .pv (.int .i64 s.2.2))]
def d22 : Fr → Option ((Int × Int × Int × Int × Int × Int × Int) × ((List (List Int)) × Int × Int))
  | [(0, .bx [.ow 22 (.rows toArray0_0), .pv (.int .i64 toArray0_1)]), (1, .pv (.int .i64 t1)), (4, .pv (.int .i64 t4)), (7, .pv (.int .i64 t7)), (8, .pv (.int .i64 t8)), (9, .pv (.int .i64 t9)), (54, .pv (.int .i64 t54)), (55, .pv (.int .i64 t55)), (80, .pv (.int .i64 t80))] => some ((t1, t4, t7, t8, t9, t54, t55), (toArray0_0, toArray0_1, t80))
  | _ => none
def st22 {ρ : Type} (n : Nat) (c : Int × Int × Int × Int × Int × Int × Int) (Ko : Exit → Fr → Option ρ) (s : (List (List Int)) × Int × Int) (nx : ((List (List Int)) × Int × Int) → Option ρ) : Option ρ :=
  Gm.triple_system_skolem_s22 n c.1 c.2.1 c.2.2.1 c.2.2.2.1 c.2.2.2.2.1 c.2.2.2.2.2.1 c.2.2.2.2.2.2 s.1 s.2.1 s.2.2 (fun a0 a1 a2 => nx (a0, a1, a2)) (fun (y0 : List (List Int)) (y1 : Int) => Ko (.exit 8) [(0, .bx [.ow 22 (.rows y0), .pv (.int .i64 y1)]), (1, .pv (.int .i64 c.1)), (4, .pv (.int .i64 c.2.1)), (7, .pv (.int .i64 c.2.2.1)), (8, .pv (.int .i64 c.2.2.2.1)), (54, .pv (.int .i64 c.2.2.2.2.2.1)), (55, .pv (.int .i64 c.2.2.2.2.2.2))])
def F15 (c : Int × Int × Int × Int × Int) (s : (List (List Int)) × Int × Int) : Fr := [(0, .bx [.ow 22 (.rows s.1), .pv (.int .i64 s.2.1)]), (1, .pv (.int .i64 c.1)), (4, .pv (.int .i64 c.2.1)), (7, .pv (.int .i64 c.2.2.1)), (8, .pv (.int .i64 s.2.2)), (54, .pv (.int .i64 c.2.2.2.1)), (55, .pv (.int .i64 c.2.2.2.2))]
def d15 : Fr → Option ((Int × Int × Int × Int × Int) × ((List (List Int)) × Int × Int))
  | [(0, .bx [.ow 22 (.rows toArray0_0), .pv (.int .i64 toArray0_1)]), (1, .pv (.int .i64 t1)), (4, .pv (.int .i64 t4)), (7, .pv (.int .i64 t7)), (8, .pv (.int .i64 t8)), (54, .pv (.int .i64 t54)), (55, .pv (.int .i64 t55))] => some ((t1, t4, t7, t54, t55), (toArray0_0, toArray0_1, t8))
  | _ => none
def st15 {ρ : Type} (n : Nat) (c : Int × Int × Int × Int × Int) (Ko : Exit → Fr → Option ρ) (s : (List (List Int)) × Int × Int) (nx : ((List (List Int)) × Int × Int) → Option ρ) : Option ρ :=
  Gm.triple_system_skolem_s15 n c.1 c.2.1 c.2.2.1 c.2.2.2.1 c.2.2.2.2 s.1 s.2.1 s.2.2 (fun a0 a1 a2 => nx (a0, a1, a2)) (fun (y0 : List (List Int)) (y1 : Int) => Ko (.exit 6) [(0, .bx [.ow 22 (.rows y0), .pv (.int .i64 y1)]), (1, .pv (.int .i64 c.1)), (4, .pv (.int .i64 c.2.1)), (54, .pv (.int .i64 c.2.2.2.1)), (55, .pv (.int .i64 c.2.2.2.2))])
def F12 (c : Int × Int × Int) (s : (List (List Int)) × Int × Int) : Fr := [(0, .bx [.ow 22 (.rows s.1), .pv (.int .i64 s.2.1)]), (1, .pv (.int .i64 c.1)), (4, .pv (.int .i64 c.2.1)), (54, .pv (.int .i64 c.2.2)), (55, .pv (.int .i64 s.2.2))]
def d12 : Fr → Option ((Int × Int × Int) × ((List (List Int)) × Int × Int))
  | [(0, .bx [.ow 22 (.rows toArray0_0), .pv (.int .i64 toArray0_1)]), (1, .pv (.int .i64 t1)), (4, .pv (.int .i64 t4)), (54, .pv (.int .i64 t54)), (55, .pv (.int .i64 t55))] => some ((t1, t4, t54), (toArray0_0, toArray0_1, t55))
  | _ => none
def st12 {ρ : Type} (n : Nat) (c : Int × Int × Int) (Ko : Exit → Fr → Option ρ) (s : (List (List Int)) × Int × Int) (nx : ((List (List Int)) × Int × Int) → Option ρ) : Option ρ :=
  Gm.triple_system_skolem_s12 n c.1 c.2.1 c.2.2 s.1 s.2.1 s.2.2 (fun a0 a1 a2 => nx (a0, a1, a2)) (fun (y0 : List (List Int)) (y1 : Int) => Ko (.exit 4) [(0, .bx [.ow 22 (.rows y0), .pv (.int .i64 y1)])])
noncomputable def tab (ρ : Type) (n : Nat) : Tab ρ := { live := [(0, [0, 1, 4]), (1, [0, 1, 4, 13, 14]), (2, [0, 1, 4, 13, 14, 15]), (3, [0, 1, 4, 5, 13, 14]), (4, [0, 1, 4, 5, 13, 14]), (5, [0, 1, 4, 5, 13, 14, 29]), (6, [0, 1, 4, 5, 13, 14, 29, 30]), (7, [0, 1, 4, 5, 6, 13, 14, 29]), (8, [0, 1, 4, 5, 13, 14, 29]), (9, [0, 1, 4, 5, 13, 14, 29]), (10, [0, 1, 4, 13, 14]), (11, [0, 1, 4, 54, 55]), (12, [0, 1, 4, 54, 55, 56]), (13, [0, 1, 4, 7, 54, 55]), (14, [0, 1, 4, 7, 8, 54, 55]), (15, [0, 1, 4, 7, 8, 54, 55, 62]), (16, [0, 1, 4, 7, 8, 54, 55]), (17, [0, 1, 4, 7, 8, 9, 54, 55]), (18, [0, 1, 4, 7, 8, 9, 54, 55, 72]), (19, [0, 1, 4, 7, 8, 9, 54, 55]), (20, [0, 1, 4, 7, 8, 9, 54, 55]), (21, [0, 1, 4, 7, 8, 9, 54, 55, 80]), (22, [0, 1, 4, 7, 8, 9, 54, 55, 80, 81]), (23, [0, 1, 4, 7, 8, 9, 10, 54, 55, 80]), (24, [0, 1, 4, 7, 8, 9, 54, 55, 80]), (25, [0, 1, 4, 7, 8, 9, 54, 55, 80]), (26, [0, 1, 4, 54, 55])], xl := [(0, [0, 1, 4]), (1, [0, 1, 4, 13, 14]), (2, [0, 1, 4, 13, 14]), (3, [0, 1, 4, 5, 13, 14, 29]), (4, [0]), (5, [0, 1, 4, 54, 55]), (6, [0, 1, 4, 54, 55]), (7, [0, 1, 4, 7, 8, 54, 55]), (8, [0, 1, 4, 7, 8, 54, 55]), (9, [0, 1, 4, 7, 8, 9, 54, 55, 80])], rl := [0], fz := [], jp := [], lp := [(6, fun A Ko => bnd (d6 A) fun p => iterM (st6 n p.1 Ko) n p.2), (2, fun A Ko => bnd (d2 A) fun p => iterM (st2 n p.1 Ko) n p.2), (22, fun A Ko => bnd (d22 A) fun p => iterM (st22 n p.1 Ko) n p.2), (15, fun A Ko => bnd (d15 A) fun p => iterM (st15 n p.1 Ko) n p.2), (12, fun A Ko => bnd (d12 A) fun p => iterM (st12 n p.1 Ko) n p.2)] }
noncomputable def b6 : Code := (cL (cB (c2 (c2 (c2 (cB (c1 (c2 (c2 (cL (cB (c2 (c1 (c2 body))))))))))))))
theorem d6_ok (A : Fr) (c : Int × Int × Int × Int × Int) (s : (List (List Int)) × Int × Int) (h : d6 A = some (c, s)) : A = F6 c s := by
  unfold d6 at h
  split at h
  · cases h; rfl
  · cases h
theorem step6 (ρ : Type) (n : Nat) (c : Int × Int × Int × Int × Int) (Ko : Exit → Fr → Option ρ) (s : (List (List Int)) × Int × Int) (nx : (Int × Int × Int × Int × Int) → ((List (List Int)) × Int × Int) → Option ρ) :
    AEO (env n) (answers ρ (used n) (used n)) (tab ρ n) b6 (F6 c s) (thenO (fun A => bnd (d6 (restr (keepOf (env n) b6) A)) fun p => nx p.1 p.2) Ko) = st6 n c Ko s (nx c) := by kernel_rfl
theorem lp6_ok {ρ : Type} (n : Nat) (hl : EntsOK Tryd.prog gl (used n)) : ∀ (A : Fr) (Ko : Exit → Fr → Option ρ) (r : ρ) (K : Exit → Fr → Prop), (bnd (d6 (restr (keepOf (env n) b6) A)) fun p => iterM (st6 n p.1 Ko) n p.2) = some r → (∀ e A, Ko e A = some r → K e A) → Gx.Sem Tryd.prog (env n) (.loop b6) A K :=
  fun A Ko r K h hk => loop_cod (P := Tryd.prog) (E := env n) (T := tab ρ n) (fun _ _ _ h => answers_ok h) F6 d6 (st6 n) d6_ok (show Cov _ (env n) (tab ρ n) b6 from ⟨trivial, ⟨⟨trivial, trivial⟩, ⟨⟨trivial, trivial⟩, trivial⟩⟩⟩) (fun c Ko s nx => step6 ρ n c Ko s nx) n A Ko r K h hk
noncomputable def b2 : Code := (cL (cB (c2 (c1 (c2 body)))))
theorem d2_ok (A : Fr) (c : Int × Int × Int) (s : (List (List Int)) × Int × Int) (h : d2 A = some (c, s)) : A = F2 c s := by
  unfold d2 at h
  split at h
  · cases h; rfl
  · cases h
theorem step2 (ρ : Type) (n : Nat) (c : Int × Int × Int) (Ko : Exit → Fr → Option ρ) (s : (List (List Int)) × Int × Int) (nx : (Int × Int × Int) → ((List (List Int)) × Int × Int) → Option ρ) :
    AEO (env n) (answers ρ (used n) (used n)) (tab ρ n) b2 (F2 c s) (thenO (fun A => bnd (d2 (restr (keepOf (env n) b2) A)) fun p => nx p.1 p.2) Ko) = st2 n c Ko s (nx c) := by kernel_rfl
theorem lp2_ok {ρ : Type} (n : Nat) (hl : EntsOK Tryd.prog gl (used n)) : ∀ (A : Fr) (Ko : Exit → Fr → Option ρ) (r : ρ) (K : Exit → Fr → Prop), (bnd (d2 (restr (keepOf (env n) b2) A)) fun p => iterM (st2 n p.1 Ko) n p.2) = some r → (∀ e A, Ko e A = some r → K e A) → Gx.Sem Tryd.prog (env n) (.loop b2) A K :=
  fun A Ko r K h hk => loop_cod (P := Tryd.prog) (E := env n) (T := tab ρ n) (fun _ _ _ h => answers_ok h) F2 d2 (st2 n) d2_ok (show Cov _ (env n) (tab ρ n) b2 from ⟨trivial, ⟨⟨trivial, trivial⟩, ⟨⟨trivial, ⟨trivial, ⟨trivial, lp6_ok n hl⟩⟩⟩, trivial⟩⟩⟩) (fun c Ko s nx => step2 ρ n c Ko s nx) n A Ko r K h hk
noncomputable def b22 : Code := (cL (cB (c2 (c2 (c2 (cB (c1 (c2 (cL (cB (c2 (c2 (cB (c1 (c2 (c2 (cL (cB (c2 (c2 (c2 body)))))))))))))))))))))
theorem d22_ok (A : Fr) (c : Int × Int × Int × Int × Int × Int × Int) (s : (List (List Int)) × Int × Int) (h : d22 A = some (c, s)) : A = F22 c s := by
  unfold d22 at h
  split at h
  · cases h; rfl
  · cases h
theorem step22 (ρ : Type) (n : Nat) (c : Int × Int × Int × Int × Int × Int × Int) (Ko : Exit → Fr → Option ρ) (s : (List (List Int)) × Int × Int) (nx : (Int × Int × Int × Int × Int × Int × Int) → ((List (List Int)) × Int × Int) → Option ρ) :
    AEO (env n) (answers ρ (used n) (used n)) (tab ρ n) b22 (F22 c s) (thenO (fun A => bnd (d22 (restr (keepOf (env n) b22) A)) fun p => nx p.1 p.2) Ko) = st22 n c Ko s (nx c) := by kernel_rfl
theorem lp22_ok {ρ : Type} (n : Nat) (hl : EntsOK Tryd.prog gl (used n)) : ∀ (A : Fr) (Ko : Exit → Fr → Option ρ) (r : ρ) (K : Exit → Fr → Prop), (bnd (d22 (restr (keepOf (env n) b22) A)) fun p => iterM (st22 n p.1 Ko) n p.2) = some r → (∀ e A, Ko e A = some r → K e A) → Gx.Sem Tryd.prog (env n) (.loop b22) A K :=
  fun A Ko r K h hk => loop_cod (P := Tryd.prog) (E := env n) (T := tab ρ n) (fun _ _ _ h => answers_ok h) F22 d22 (st22 n) d22_ok (show Cov _ (env n) (tab ρ n) b22 from ⟨trivial, ⟨⟨trivial, trivial⟩, ⟨⟨trivial, trivial⟩, trivial⟩⟩⟩) (fun c Ko s nx => step22 ρ n c Ko s nx) n A Ko r K h hk
noncomputable def b15 : Code := (cL (cB (c2 (c2 (cB (c1 (c2 (c2 (cL (cB (c2 (c2 (c2 body)))))))))))))
theorem d15_ok (A : Fr) (c : Int × Int × Int × Int × Int) (s : (List (List Int)) × Int × Int) (h : d15 A = some (c, s)) : A = F15 c s := by
  unfold d15 at h
  split at h
  · cases h; rfl
  · cases h
theorem step15 (ρ : Type) (n : Nat) (c : Int × Int × Int × Int × Int) (Ko : Exit → Fr → Option ρ) (s : (List (List Int)) × Int × Int) (nx : (Int × Int × Int × Int × Int) → ((List (List Int)) × Int × Int) → Option ρ) :
    AEO (env n) (answers ρ (used n) (used n)) (tab ρ n) b15 (F15 c s) (thenO (fun A => bnd (d15 (restr (keepOf (env n) b15) A)) fun p => nx p.1 p.2) Ko) = st15 n c Ko s (nx c) := by kernel_rfl
theorem lp15_ok {ρ : Type} (n : Nat) (hl : EntsOK Tryd.prog gl (used n)) : ∀ (A : Fr) (Ko : Exit → Fr → Option ρ) (r : ρ) (K : Exit → Fr → Prop), (bnd (d15 (restr (keepOf (env n) b15) A)) fun p => iterM (st15 n p.1 Ko) n p.2) = some r → (∀ e A, Ko e A = some r → K e A) → Gx.Sem Tryd.prog (env n) (.loop b15) A K :=
  fun A Ko r K h hk => loop_cod (P := Tryd.prog) (E := env n) (T := tab ρ n) (fun _ _ _ h => answers_ok h) F15 d15 (st15 n) d15_ok (show Cov _ (env n) (tab ρ n) b15 from ⟨⟨trivial, ⟨trivial, trivial⟩⟩, ⟨⟨trivial, ⟨⟨trivial, ⟨trivial, trivial⟩⟩, ⟨trivial, lp22_ok n hl⟩⟩⟩, trivial⟩⟩) (fun c Ko s nx => step15 ρ n c Ko s nx) n A Ko r K h hk
noncomputable def b12 : Code := (cL (cB (c2 (c2 (c2 body)))))
theorem d12_ok (A : Fr) (c : Int × Int × Int) (s : (List (List Int)) × Int × Int) (h : d12 A = some (c, s)) : A = F12 c s := by
  unfold d12 at h
  split at h
  · cases h; rfl
  · cases h
theorem step12 (ρ : Type) (n : Nat) (c : Int × Int × Int) (Ko : Exit → Fr → Option ρ) (s : (List (List Int)) × Int × Int) (nx : (Int × Int × Int) → ((List (List Int)) × Int × Int) → Option ρ) :
    AEO (env n) (answers ρ (used n) (used n)) (tab ρ n) b12 (F12 c s) (thenO (fun A => bnd (d12 (restr (keepOf (env n) b12) A)) fun p => nx p.1 p.2) Ko) = st12 n c Ko s (nx c) := by kernel_rfl
theorem lp12_ok {ρ : Type} (n : Nat) (hl : EntsOK Tryd.prog gl (used n)) : ∀ (A : Fr) (Ko : Exit → Fr → Option ρ) (r : ρ) (K : Exit → Fr → Prop), (bnd (d12 (restr (keepOf (env n) b12) A)) fun p => iterM (st12 n p.1 Ko) n p.2) = some r → (∀ e A, Ko e A = some r → K e A) → Gx.Sem Tryd.prog (env n) (.loop b12) A K :=
  fun A Ko r K h hk => loop_cod (P := Tryd.prog) (E := env n) (T := tab ρ n) (fun _ _ _ h => answers_ok h) F12 d12 (st12 n) d12_ok (show Cov _ (env n) (tab ρ n) b12 from ⟨trivial, ⟨⟨trivial, trivial⟩, ⟨⟨trivial, ⟨trivial, lp15_ok n hl⟩⟩, trivial⟩⟩⟩) (fun c Ko s nx => step12 ρ n c Ko s nx) n A Ko r K h hk
def enc (a : (List (List Int)) × Int × Int) : List AV := [.bx [.ow 22 (.rows a.1), .pv (.int .i64 a.2.1)], .pv (.int .i64 a.2.2)]
def dec : List AV → Option ((List (List Int)) × Int × Int)
  | [.bx [.ow 22 (.rows toArray0_0), .pv (.int .i64 toArray0_1)], .pv (.int .i64 t1)] => some (toArray0_0, toArray0_1, t1)
  | _ => none
def emb (b : (List (List Int)) × Int) : AV × List AV := (.tp [], [.bx [.ow 22 (.rows b.1), .pv (.int .i64 b.2)]])
def dr : AV → List AV → Option ((List (List Int)) × Int)
  | .tp [], [.bx [.ow 22 (.rows r0), .pv (.int .i64 r1)]] => some (r0, r1)
  | _, _ => none
theorem dec_ok (vs : List AV) (a : (List (List Int)) × Int × Int) (h : dec vs = some a) : vs = enc a := by
  unfold dec at h
  split at h
  · cases h; rfl
  · cases h
theorem dr_ok (v : AV) (o : List AV) (b : (List (List Int)) × Int) (h : dr v o = some b) : emb b = (v, o) := by
  unfold dr at h
  split at h
  · cases h; rfl
  · cases h
noncomputable def ent (n : Nat) : Ent := { f := 111, ms := [.io, .lend], α := (List (List Int)) × Int × Int, β := (List (List Int)) × Int, dec := dec, enc := enc, emb := emb, m := fun a => Gm.triple_system_skolem n a.1 a.2.1 a.2.2, hdec := dec_ok }
theorem run (n : Nat) (a : (List (List Int)) × Int × Int) : AEO (env n) (answers ((List (List Int)) × Int) (used n) (used n)) (tab ((List (List Int)) × Int) n) body (frameOf (enc a) 0) (bodyO (env n) Tryd.f111.results.toList (enc a) dr) = (ent n).m a := by kernel_rfl
theorem ok (n : Nat) (hl : EntsOK Tryd.prog gl (used n)) : EntOK Tryd.prog gl (ent n) :=
  fnO_sound (P := Tryd.prog) (e := ent n) (fn := Tryd.f111) (body := body) (l := used n) (te := te) (gl := gl) (n := ⟨4, 106⟩) (cut := []) (keep := keep) (T := tab ((List (List Int)) × Int) n) (dr := dr) Tryd.func111 (by kernel_rfl) (by kernel_rfl) te_ok (by kernel_rfl) (by kernel_rfl) hl (show Cov _ (env n) (tab ((List (List Int)) × Int) n) body from ⟨trivial, ⟨⟨trivial, lp2_ok n hl⟩, ⟨trivial, lp12_ok n hl⟩⟩⟩) dr_ok (fun a => ⟨rfl, rfl⟩) (run n)
theorem all_ok (n : Nat) : EntOK Tryd.prog gl (ent n) := ok n ⟨W_triple_lister_add.all_ok n, trivial⟩
end W_triple_system_skolem
namespace W_triple_Make
noncomputable def body : Code := Tryd.f75.body.getD .skip
def keep : List (Nat × List Nat) := []
noncomputable def used (n : Nat) : List Ent := [W_triple_system_bose.ent n, W_triple_system_design.ent n, W_triple_system_skolem.ent n]
noncomputable def env (n : Nat) : Env := envOf te gl (used n) ⟨2, 32⟩ [] keep
noncomputable def tab (ρ : Type) (_n : Nat) : Tab ρ := { live := [(0, [0, 2]), (1, [0, 2, 10]), (2, [2, 3]), (3, [0, 2, 4]), (4, [0, 2, 4, 16]), (5, [2, 3]), (6, [0, 2, 4, 16, 18]), (7, [2, 4]), (8, [0, 2, 4, 24]), (9, [2, 4]), (10, [2, 3])], xl := [(0, [2, 4])], rl := [2, 3], fz := [], jp := [], lp := [] }
def enc (a : Int) : List AV := [.pv (.int .i64 a)]
def dec : List AV → Option (Int)
  | [.pv (.int .i64 v0)] => some v0
  | _ => none
def emb (b : Int × (List (List Int)) × Int) : AV × List AV := (.tp [.ag [.pv (.int .i64 b.1), .sl (.rows b.2.1)], .pv (.int .i64 b.2.2)], [])
def dr : AV → List AV → Option (Int × (List (List Int)) × Int)
  | .tp [.ag [.pv (.int .i64 r0), .sl (.rows r1)], .pv (.int .i64 r2)], [] => some (r0, r1, r2)
  | _, _ => none
theorem dec_ok (vs : List AV) (a : Int) (h : dec vs = some a) : vs = enc a := by
  unfold dec at h
  split at h
  · cases h; rfl
  · cases h
theorem dr_ok (v : AV) (o : List AV) (b : Int × (List (List Int)) × Int) (h : dr v o = some b) : emb b = (v, o) := by
  unfold dr at h
  split at h
  · cases h; rfl
  · cases h
noncomputable def ent (n : Nat) : Ent := { f := 75, ms := [.lend], α := Int, β := Int × (List (List Int)) × Int, dec := dec, enc := enc, emb := emb, m := fun a => Gm.triple_Make n a, hdec := dec_ok }
theorem run (n : Nat) (a : Int) : AEO (env n) (answers (Int × (List (List Int)) × Int) (used n) (used n)) (tab (Int × (List (List Int)) × Int) n) body (frameOf (enc a) 0) (bodyO (env n) Tryd.f75.results.toList (enc a) dr) = (ent n).m a := by kernel_rfl
theorem ok (n : Nat) (hl : EntsOK Tryd.prog gl (used n)) : EntOK Tryd.prog gl (ent n) :=
  fnO_sound (P := Tryd.prog) (e := ent n) (fn := Tryd.f75) (body := body) (l := used n) (te := te) (gl := gl) (n := ⟨2, 32⟩) (cut := []) (keep := keep) (T := tab (Int × (List (List Int)) × Int) n) (dr := dr) Tryd.func75 (by kernel_rfl) (by kernel_rfl) te_ok (by kernel_rfl) (by kernel_rfl) hl (show Cov _ (env n) (tab (Int × (List (List Int)) × Int) n) body from ⟨trivial, ⟨⟨trivial, ⟨⟨trivial, trivial⟩, trivial⟩⟩, ⟨trivial, ⟨⟨trivial, ⟨trivial, ⟨trivial, ⟨trivial, ⟨trivial, ⟨trivial, trivial⟩⟩⟩⟩⟩⟩, ⟨trivial, trivial⟩⟩⟩⟩⟩) dr_ok (fun a => ⟨rfl, rfl⟩) (run n)
theorem all_ok (n : Nat) : EntOK Tryd.prog gl (ent n) := ok n ⟨W_triple_system_bose.all_ok n, W_triple_system_design.all_ok n, W_triple_system_skolem.all_ok n, trivial⟩
end W_triple_Make
namespace W_law2_tripleFact
noncomputable def body : Code := Tryd.f32.body.getD .skip
def keep : List (Nat × List Nat) := []
noncomputable def used (n : Nat) : List Ent := [W_triple_Make.ent n, W_triple_Check.ent n]
noncomputable def env (n : Nat) : Env := envOf te gl (used n) ⟨0, 27⟩ [] keep
noncomputable def tab (ρ : Type) (_n : Nat) : Tab ρ := { live := [(0, []), (1, [1, 2]), (2, [1, 2, 3]), (3, [0])], xl := [], rl := [0], fz := [], jp := [], lp := [] }
def enc (_a : Unit) : List AV := []
def dec : List AV → Option (Unit)
  | [] => some ()
  | _ => none
def emb (b : Bool) : AV × List AV := (.pv (.bool b), [])
def dr : AV → List AV → Option (Bool)
  | .pv (.bool r0), [] => some r0
  | _, _ => none
theorem dec_ok (vs : List AV) (a : Unit) (h : dec vs = some a) : vs = enc a := by
  unfold dec at h
  split at h
  · cases h; rfl
  · cases h
theorem dr_ok (v : AV) (o : List AV) (b : Bool) (h : dr v o = some b) : emb b = (v, o) := by
  unfold dr at h
  split at h
  · cases h; rfl
  · cases h
noncomputable def ent (n : Nat) : Ent := { f := 32, ms := [], α := Unit, β := Bool, dec := dec, enc := enc, emb := emb, m := fun a => Gm.law2_tripleFact n, hdec := dec_ok }
theorem run (n : Nat) (a : Unit) : AEO (env n) (answers (Bool) (used n) (used n)) (tab (Bool) n) body (frameOf (enc a) 0) (bodyO (env n) Tryd.f32.results.toList (enc a) dr) = (ent n).m a := by kernel_rfl
theorem ok (n : Nat) (hl : EntsOK Tryd.prog gl (used n)) : EntOK Tryd.prog gl (ent n) :=
  fnO_sound (P := Tryd.prog) (e := ent n) (fn := Tryd.f32) (body := body) (l := used n) (te := te) (gl := gl) (n := ⟨0, 27⟩) (cut := []) (keep := keep) (T := tab (Bool) n) (dr := dr) Tryd.func32 (by kernel_rfl) (by kernel_rfl) te_ok (by kernel_rfl) (by kernel_rfl) hl (show Cov _ (env n) (tab (Bool) n) body from ⟨trivial, ⟨trivial, ⟨trivial, ⟨trivial, trivial⟩⟩⟩⟩) dr_ok (fun a => ⟨rfl, rfl⟩) (run n)
theorem all_ok (n : Nat) : EntOK Tryd.prog gl (ent n) := ok n ⟨W_triple_Make.all_ok n, W_triple_Check.all_ok n, trivial⟩
end W_law2_tripleFact
namespace W_ref2_Together
noncomputable def body : Code := Tryd.f33.body.getD .skip
def keep : List (Nat × List Nat) := [(3, [0, 1, 5, 6])]
noncomputable def used (n : Nat) : List Ent := [W_ref2_Lies.ent n]
noncomputable def env (n : Nat) : Env := envOf te gl (used n) ⟨4, 24⟩ [] keep
def F3 (c : (List Int) × (List Int)) (s : Int × Int) : Fr := [(0, .ls (.ints .i64 c.1)), (1, .ls (.ints .i64 c.2)), (5, .pv (.int .i64 s.1)), (6, .pv (.int .i64 s.2))]
def d3 : Fr → Option (((List Int) × (List Int)) × (Int × Int))
  | [(0, .ls (.ints .i64 a0)), (1, .ls (.ints .i64 b1)), (5, .pv (.int .i64 n_5)), (6, .pv (.int .i64 i6))] => some ((a0, b1), (n_5, i6))
  | _ => none
def st3 {ρ : Type} (n : Nat) (c : (List Int) × (List Int)) (Ko : Exit → Fr → Option ρ) (s : Int × Int) (nx : (Int × Int) → Option ρ) : Option ρ :=
  Gm.ref2_Together_s3 n c.1 c.2 s.1 s.2 (fun a0 a1 => nx (a0, a1)) (fun (y0 : Int) => Ko (.exit 0) [(5, .pv (.int .i64 y0))])
noncomputable def tab (ρ : Type) (n : Nat) : Tab ρ := { live := [(0, [0, 1]), (1, [0, 1, 5]), (2, [0, 1, 5, 6]), (3, [0, 1, 5, 6, 11]), (4, [0, 1, 5, 6]), (5, [0, 1, 5, 6, 7]), (6, [0, 1, 5, 6, 20]), (7, [0, 1, 5, 6]), (8, [4])], xl := [(0, [5]), (1, [0, 1, 5, 6])], rl := [4], fz := [], jp := [], lp := [(3, fun A Ko => bnd (d3 A) fun p => iterM (st3 n p.1 Ko) n p.2)] }
noncomputable def b3 : Code := (cL (cB (c2 (c1 (c2 (c2 body))))))
theorem d3_ok (A : Fr) (c : (List Int) × (List Int)) (s : Int × Int) (h : d3 A = some (c, s)) : A = F3 c s := by
  unfold d3 at h
  split at h
  · cases h; rfl
  · cases h
theorem step3 (ρ : Type) (n : Nat) (c : (List Int) × (List Int)) (Ko : Exit → Fr → Option ρ) (s : Int × Int) (nx : ((List Int) × (List Int)) → (Int × Int) → Option ρ) :
    AEO (env n) (answers ρ (used n) (used n)) (tab ρ n) b3 (F3 c s) (thenO (fun A => bnd (d3 (restr (keepOf (env n) b3) A)) fun p => nx p.1 p.2) Ko) = st3 n c Ko s (nx c) := by kernel_rfl
theorem lp3_ok {ρ : Type} (n : Nat) (hl : EntsOK Tryd.prog gl (used n)) : ∀ (A : Fr) (Ko : Exit → Fr → Option ρ) (r : ρ) (K : Exit → Fr → Prop), (bnd (d3 (restr (keepOf (env n) b3) A)) fun p => iterM (st3 n p.1 Ko) n p.2) = some r → (∀ e A, Ko e A = some r → K e A) → Gx.Sem Tryd.prog (env n) (.loop b3) A K :=
  fun A Ko r K h hk => loop_cod (P := Tryd.prog) (E := env n) (T := tab ρ n) (fun _ _ _ h => answers_ok h) F3 d3 (st3 n) d3_ok (show Cov _ (env n) (tab ρ n) b3 from ⟨⟨trivial, ⟨trivial, trivial⟩⟩, ⟨⟨trivial, ⟨trivial, ⟨trivial, trivial⟩⟩⟩, trivial⟩⟩) (fun c Ko s nx => step3 ρ n c Ko s nx) n A Ko r K h hk
def enc (a : (List Int) × (List Int)) : List AV := [.ls (.ints .i64 a.1), .ls (.ints .i64 a.2)]
def dec : List AV → Option ((List Int) × (List Int))
  | [.ls (.ints .i64 a0), .ls (.ints .i64 b1)] => some (a0, b1)
  | _ => none
def emb (b : Int) : AV × List AV := (.pv (.int .i64 b), [])
def dr : AV → List AV → Option (Int)
  | .pv (.int .i64 r0), [] => some r0
  | _, _ => none
theorem dec_ok (vs : List AV) (a : (List Int) × (List Int)) (h : dec vs = some a) : vs = enc a := by
  unfold dec at h
  split at h
  · cases h; rfl
  · cases h
theorem dr_ok (v : AV) (o : List AV) (b : Int) (h : dr v o = some b) : emb b = (v, o) := by
  unfold dr at h
  split at h
  · cases h; rfl
  · cases h
noncomputable def ent (n : Nat) : Ent := { f := 33, ms := [.lend, .lend], α := (List Int) × (List Int), β := Int, dec := dec, enc := enc, emb := emb, m := fun a => Gm.ref2_Together n a.1 a.2, hdec := dec_ok }
theorem run (n : Nat) (a : (List Int) × (List Int)) : AEO (env n) (answers (Int) (used n) (used n)) (tab (Int) n) body (frameOf (enc a) 0) (bodyO (env n) Tryd.f33.results.toList (enc a) dr) = (ent n).m a := by kernel_rfl
theorem ok (n : Nat) (hl : EntsOK Tryd.prog gl (used n)) : EntOK Tryd.prog gl (ent n) :=
  fnO_sound (P := Tryd.prog) (e := ent n) (fn := Tryd.f33) (body := body) (l := used n) (te := te) (gl := gl) (n := ⟨4, 24⟩) (cut := []) (keep := keep) (T := tab (Int) n) (dr := dr) Tryd.func33 (by kernel_rfl) (by kernel_rfl) te_ok (by kernel_rfl) (by kernel_rfl) hl (show Cov _ (env n) (tab (Int) n) body from ⟨trivial, ⟨trivial, ⟨⟨trivial, lp3_ok n hl⟩, ⟨trivial, trivial⟩⟩⟩⟩) dr_ok (fun a => ⟨rfl, rfl⟩) (run n)
theorem all_ok (n : Nat) : EntOK Tryd.prog gl (ent n) := ok n ⟨W_ref2_Lies.all_ok n, trivial⟩
end W_ref2_Together
namespace W_law2_TripleDoubled
noncomputable def body : Code := Tryd.f7.body.getD .skip
def keep : List (Nat × List Nat) := [(10, [2, 3, 6, 9]), (14, [2, 3, 6, 9, 10, 11])]
noncomputable def used (n : Nat) : List Ent := [W_law2_tripleFact.ent n, W_triple_Double.ent n, W_triple_Check.ent n, W_ref2_Together.ent n, W_triple_Product.ent n]
noncomputable def env (n : Nat) : Env := envOf te gl (used n) ⟨2, 91⟩ [] keep
def F14 (c : Int × (List (List Int)) × Int × (List (List Int)) × Int × (List (List Int)) × Int) (s : Int × Int) : Fr := [(2, .bx [.pv (.int .i64 c.1), .ls (.rows c.2.1)]), (3, .bx [.pv (.int .i64 c.2.2.1), .ls (.rows c.2.2.2.1)]), (6, .bx [.pv (.int .i64 c.2.2.2.2.1), .sl (.rows c.2.2.2.2.2.1)]), (9, .pv (.int .i64 c.2.2.2.2.2.2)), (10, .pv (.int .i64 s.1)), (11, .pv (.int .i64 s.2))]
def d14 : Fr → Option ((Int × (List (List Int)) × Int × (List (List Int)) × Int × (List (List Int)) × Int) × (Int × Int))
  | [(2, .bx [.pv (.int .i64 t2_0), .ls (.rows t2_1)]), (3, .bx [.pv (.int .i64 t3_0), .ls (.rows t3_1)]), (6, .bx [.pv (.int .i64 t6_0), .sl (.rows t6_1)]), (9, .pv (.int .i64 t9)), (10, .pv (.int .i64 t10)), (11, .pv (.int .i64 t11))] => some ((t2_0, t2_1, t3_0, t3_1, t6_0, t6_1, t9), (t10, t11))
  | _ => none
def st14 {ρ : Type} (n : Nat) (c : Int × (List (List Int)) × Int × (List (List Int)) × Int × (List (List Int)) × Int) (Ko : Exit → Fr → Option ρ) (s : Int × Int) (nx : (Int × Int) → Option ρ) : Option ρ :=
  Gm.law2_TripleDoubled_s14 n c.1 c.2.1 c.2.2.1 c.2.2.2.1 c.2.2.2.2.1 c.2.2.2.2.2.1 c.2.2.2.2.2.2 s.1 s.2 (fun a0 a1 => nx (a0, a1)) (fun (y0 : Int) => Ko (.exit 2) [(2, .bx [.pv (.int .i64 c.1), .ls (.rows c.2.1)]), (3, .bx [.pv (.int .i64 c.2.2.1), .ls (.rows c.2.2.2.1)]), (6, .bx [.pv (.int .i64 c.2.2.2.2.1), .sl (.rows c.2.2.2.2.2.1)]), (9, .pv (.int .i64 c.2.2.2.2.2.2)), (10, .pv (.int .i64 y0))])
def F10 (c : Int × (List (List Int)) × Int × (List (List Int)) × Int × (List (List Int))) (s : Int) : Fr := [(2, .bx [.pv (.int .i64 c.1), .ls (.rows c.2.1)]), (3, .bx [.pv (.int .i64 c.2.2.1), .ls (.rows c.2.2.2.1)]), (6, .bx [.pv (.int .i64 c.2.2.2.2.1), .sl (.rows c.2.2.2.2.2)]), (9, .pv (.int .i64 s))]
def d10 : Fr → Option ((Int × (List (List Int)) × Int × (List (List Int)) × Int × (List (List Int))) × (Int))
  | [(2, .bx [.pv (.int .i64 t2_0), .ls (.rows t2_1)]), (3, .bx [.pv (.int .i64 t3_0), .ls (.rows t3_1)]), (6, .bx [.pv (.int .i64 t6_0), .sl (.rows t6_1)]), (9, .pv (.int .i64 t9))] => some ((t2_0, t2_1, t3_0, t3_1, t6_0, t6_1), t9)
  | _ => none
def st10 {ρ : Type} (n : Nat) (c : Int × (List (List Int)) × Int × (List (List Int)) × Int × (List (List Int))) (Ko : Exit → Fr → Option ρ) (s : Int) (nx : Int → Option ρ) : Option ρ :=
  Gm.law2_TripleDoubled_s10 n c.1 c.2.1 c.2.2.1 c.2.2.2.1 c.2.2.2.2.1 c.2.2.2.2.2 s nx (Ko .ret [(4, .pv (.bool false))]) (Ko (.exit 0) [(2, .bx [.pv (.int .i64 c.1), .ls (.rows c.2.1)]), (3, .bx [.pv (.int .i64 c.2.2.1), .ls (.rows c.2.2.2.1)])])
noncomputable def tab (ρ : Type) (n : Nat) : Tab ρ := { live := [(0, [2, 3]), (1, [2, 3, 5]), (2, [2, 3, 17]), (3, [4]), (4, [2, 3, 6, 7]), (5, [2, 3, 6, 24]), (6, [2, 3, 6, 8]), (7, [2, 3, 6, 37]), (8, [4]), (9, [2, 3, 6, 9]), (10, [2, 3, 6, 9, 42]), (11, [2, 3, 6, 9]), (12, [2, 3, 6, 9, 10]), (13, [2, 3, 6, 9, 10, 11]), (14, [2, 3, 6, 9, 10, 11, 49]), (15, [2, 3, 6, 9, 10, 11]), (16, [2, 3, 6, 9, 10, 11, 12]), (17, [2, 3, 6, 9, 10, 11, 64]), (18, [2, 3, 6, 9, 10, 11]), (19, [2, 3, 6, 9, 68]), (20, [4]), (21, [2, 3, 7, 13]), (22, [2, 3, 13, 76]), (23, [4]), (24, [2, 3, 13, 14]), (25, [4])], xl := [(0, [2, 3]), (1, [2, 3, 6, 9]), (2, [2, 3, 6, 9, 10]), (3, [2, 3, 6, 9, 10, 11])], rl := [4], fz := [], jp := [], lp := [(14, fun A Ko => bnd (d14 A) fun p => iterM (st14 n p.1 Ko) n p.2), (10, fun A Ko => bnd (d10 A) fun p => iterM (st10 n p.1 Ko) n p.2)] }
noncomputable def b14 : Code := (cL (cB (c2 (c1 (c2 (cB (c1 (c2 (cL (cB (c2 (c2 (c2 (cT (c2 (c1 (c2 (c2 (c2 (c2 body))))))))))))))))))))
theorem d14_ok (A : Fr) (c : Int × (List (List Int)) × Int × (List (List Int)) × Int × (List (List Int)) × Int) (s : Int × Int) (h : d14 A = some (c, s)) : A = F14 c s := by
  unfold d14 at h
  split at h
  · cases h; rfl
  · cases h
theorem step14 (ρ : Type) (n : Nat) (c : Int × (List (List Int)) × Int × (List (List Int)) × Int × (List (List Int)) × Int) (Ko : Exit → Fr → Option ρ) (s : Int × Int) (nx : (Int × (List (List Int)) × Int × (List (List Int)) × Int × (List (List Int)) × Int) → (Int × Int) → Option ρ) :
    AEO (env n) (answers ρ (used n) (used n)) (tab ρ n) b14 (F14 c s) (thenO (fun A => bnd (d14 (restr (keepOf (env n) b14) A)) fun p => nx p.1 p.2) Ko) = st14 n c Ko s (nx c) := by kernel_rfl
theorem lp14_ok {ρ : Type} (n : Nat) (hl : EntsOK Tryd.prog gl (used n)) : ∀ (A : Fr) (Ko : Exit → Fr → Option ρ) (r : ρ) (K : Exit → Fr → Prop), (bnd (d14 (restr (keepOf (env n) b14) A)) fun p => iterM (st14 n p.1 Ko) n p.2) = some r → (∀ e A, Ko e A = some r → K e A) → Gx.Sem Tryd.prog (env n) (.loop b14) A K :=
  fun A Ko r K h hk => loop_cod (P := Tryd.prog) (E := env n) (T := tab ρ n) (fun _ _ _ h => answers_ok h) F14 d14 (st14 n) d14_ok (show Cov _ (env n) (tab ρ n) b14 from ⟨⟨trivial, ⟨trivial, trivial⟩⟩, ⟨⟨trivial, ⟨trivial, ⟨trivial, trivial⟩⟩⟩, trivial⟩⟩) (fun c Ko s nx => step14 ρ n c Ko s nx) n A Ko r K h hk
noncomputable def b10 : Code := (cL (cB (c2 (c2 (c2 (cT (c2 (c1 (c2 (c2 (c2 (c2 body))))))))))))
theorem d10_ok (A : Fr) (c : Int × (List (List Int)) × Int × (List (List Int)) × Int × (List (List Int))) (s : Int) (h : d10 A = some (c, s)) : A = F10 c s := by
  unfold d10 at h
  split at h
  · cases h; rfl
  · cases h
theorem step10 (ρ : Type) (n : Nat) (c : Int × (List (List Int)) × Int × (List (List Int)) × Int × (List (List Int))) (Ko : Exit → Fr → Option ρ) (s : Int) (nx : (Int × (List (List Int)) × Int × (List (List Int)) × Int × (List (List Int))) → (Int) → Option ρ) :
    AEO (env n) (answers ρ (used n) (used n)) (tab ρ n) b10 (F10 c s) (thenO (fun A => bnd (d10 (restr (keepOf (env n) b10) A)) fun p => nx p.1 p.2) Ko) = st10 n c Ko s (nx c) := by kernel_rfl
theorem lp10_ok {ρ : Type} (n : Nat) (hl : EntsOK Tryd.prog gl (used n)) : ∀ (A : Fr) (Ko : Exit → Fr → Option ρ) (r : ρ) (K : Exit → Fr → Prop), (bnd (d10 (restr (keepOf (env n) b10) A)) fun p => iterM (st10 n p.1 Ko) n p.2) = some r → (∀ e A, Ko e A = some r → K e A) → Gx.Sem Tryd.prog (env n) (.loop b10) A K :=
  fun A Ko r K h hk => loop_cod (P := Tryd.prog) (E := env n) (T := tab ρ n) (fun _ _ _ h => answers_ok h) F10 d10 (st10 n) d10_ok (show Cov _ (env n) (tab ρ n) b10 from ⟨⟨trivial, ⟨trivial, trivial⟩⟩, ⟨⟨trivial, ⟨⟨trivial, lp14_ok n hl⟩, ⟨trivial, ⟨⟨trivial, trivial⟩, trivial⟩⟩⟩⟩, trivial⟩⟩) (fun c Ko s nx => step10 ρ n c Ko s nx) n A Ko r K h hk
def enc (a : Int × (List (List Int)) × Int × (List (List Int))) : List AV := [.ag [.pv (.int .i64 a.1), .ls (.rows a.2.1)], .ag [.pv (.int .i64 a.2.2.1), .ls (.rows a.2.2.2)]]
def dec : List AV → Option (Int × (List (List Int)) × Int × (List (List Int)))
  | [.ag [.pv (.int .i64 toArray0_0), .ls (.rows toArray0_1)], .ag [.pv (.int .i64 t1_0), .ls (.rows t1_1)]] => some (toArray0_0, toArray0_1, t1_0, t1_1)
  | _ => none
def emb (b : Bool) : AV × List AV := (.pv (.bool b), [])
def dr : AV → List AV → Option (Bool)
  | .pv (.bool r0), [] => some r0
  | _, _ => none
theorem dec_ok (vs : List AV) (a : Int × (List (List Int)) × Int × (List (List Int))) (h : dec vs = some a) : vs = enc a := by
  unfold dec at h
  split at h
  · cases h; rfl
  · cases h
theorem dr_ok (v : AV) (o : List AV) (b : Bool) (h : dr v o = some b) : emb b = (v, o) := by
  unfold dr at h
  split at h
  · cases h; rfl
  · cases h
noncomputable def ent (n : Nat) : Ent := { f := 7, ms := [.lend, .lend], α := Int × (List (List Int)) × Int × (List (List Int)), β := Bool, dec := dec, enc := enc, emb := emb, m := fun a => Gm.law2_TripleDoubled n a.1 a.2.1 a.2.2.1 a.2.2.2, hdec := dec_ok }
theorem run (n : Nat) (a : Int × (List (List Int)) × Int × (List (List Int))) : AEO (env n) (answers (Bool) (used n) (used n)) (tab (Bool) n) body (frameOf (enc a) 0) (bodyO (env n) Tryd.f7.results.toList (enc a) dr) = (ent n).m a := by kernel_rfl
theorem ok (n : Nat) (hl : EntsOK Tryd.prog gl (used n)) : EntOK Tryd.prog gl (ent n) :=
  fnO_sound (P := Tryd.prog) (e := ent n) (fn := Tryd.f7) (body := body) (l := used n) (te := te) (gl := gl) (n := ⟨2, 91⟩) (cut := []) (keep := keep) (T := tab (Bool) n) (dr := dr) Tryd.func7 (by kernel_rfl) (by kernel_rfl) te_ok (by kernel_rfl) (by kernel_rfl) hl (show Cov _ (env n) (tab (Bool) n) body from ⟨trivial, ⟨trivial, ⟨⟨trivial, ⟨⟨trivial, trivial⟩, trivial⟩⟩, ⟨trivial, ⟨⟨trivial, ⟨⟨trivial, ⟨⟨trivial, ⟨⟨trivial, trivial⟩, trivial⟩⟩, ⟨trivial, lp10_ok n hl⟩⟩⟩, trivial⟩⟩, ⟨trivial, ⟨⟨trivial, ⟨⟨trivial, trivial⟩, trivial⟩⟩, ⟨trivial, ⟨trivial, trivial⟩⟩⟩⟩⟩⟩⟩⟩⟩) dr_ok (fun a => ⟨rfl, rfl⟩) (run n)
theorem all_ok (n : Nat) : EntOK Tryd.prog gl (ent n) := ok n ⟨W_law2_tripleFact.all_ok n, W_triple_Double.all_ok n, W_triple_Check.all_ok n, W_ref2_Together.all_ok n, W_triple_Product.all_ok n, trivial⟩
end W_law2_TripleDoubled
end Go.Gw
