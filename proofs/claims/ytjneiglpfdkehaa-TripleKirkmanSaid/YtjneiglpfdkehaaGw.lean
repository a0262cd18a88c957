/-
  The functions keep the contracts that their models give; printed by program (gen.py).
  Conditions: none.
-/
import Derived.Test.YtjneiglpfdkehaaG3
import Derived.Test.YtjneiglpfdkehaaProg
import Derived.KernelRfl
import Derived.Test.YtjneiglpfdkehaaGm
import Derived.Test.YtjneiglpfdkehaaSh
import Derived.Test.YtjneiglpfdkehaaLS
import Derived.Test.YtjneiglpfdkehaaG5
import Derived.Test.YtjneiglpfdkehaaG6
namespace Go.Gw
open Go Go.Gx Go.Proofs
set_option maxRecDepth 100000
def te : TE := [(1, .func),
  (2, .int .i64),
  (3, .int .i64),
  (4, .bool),
  (5, .int .u8),
  (6, .int .u8),
  (7, .strct [(0, 2, 1), (1, 3, 1), (2, 4, 1), (3, 6, 1)] 4 [.pv (.int .i64 0), .pv (.int .i64 0), .pv (.bool false), .pv (.int .u8 0)]),
  (8, .strct [(0, 2, 1), (1, 3, 1), (2, 4, 1), (3, 6, 1)] 4 [.pv (.int .i64 0), .pv (.int .i64 0), .pv (.bool false), .pv (.int .u8 0)]),
  (12, .int .u64),
  (15, .ptr),
  (16, .ptr),
  (17, .ptr),
  (21, .int .i32),
  (22, .slice 41 (.rows [])),
  (23, .strct [(0, 3, 1), (1, 22, 1)] 2 [.pv (.int .i64 0), .nl 41 (.rows [])]),
  (24, .strct [(0, 3, 1), (1, 22, 1)] 2 [.pv (.int .i64 0), .nl 41 (.rows [])]),
  (25, .int .i64),
  (26, .func),
  (28, .func),
  (29, .func),
  (30, .func),
  (31, .func),
  (33, .func),
  (34, .func),
  (35, .func),
  (36, .func),
  (37, .func),
  (39, .func),
  (40, .func),
  (41, .slice 3 (.ints .i64 [])),
  (43, .func),
  (44, .func),
  (45, .func),
  (46, .arr 40 3 1 (.ints .i64 (List.replicate 40 0))),
  (47, .arr 40 46 40 (.ints .i64 (List.replicate 1600 0))),
  (48, .arr 40 46 40 (.ints .i64 (List.replicate 1600 0))),
  (50, .func),
  (52, .func),
  (53, .func),
  (54, .func),
  (55, .ptr),
  (56, .strct [(0, 22, 1)] 1 [.nl 41 (.rows [])]),
  (57, .strct [(0, 22, 1)] 1 [.nl 41 (.rows [])]),
  (58, .strct [(0, 57, 1), (1, 3, 1)] 2 [.nl 41 (.rows []), .pv (.int .i64 0)]),
  (59, .strct [(0, 57, 1), (1, 3, 1)] 2 [.nl 41 (.rows []), .pv (.int .i64 0)]),
  (60, .func),
  (61, .func),
  (62, .func),
  (64, .func),
  (65, .func),
  (66, .ptr),
  (67, .func),
  (68, .func),
  (70, .func),
  (71, .func),
  (72, .func),
  (73, .func),
  (74, .func),
  (75, .slice 80 (.ints .u64 [])),
  (76, .func),
  (77, .func),
  (78, .func),
  (79, .int .u64),
  (80, .int .u64),
  (81, .ptr),
  (86, .func),
  (87, .strct [(0, 3, 1), (1, 80, 1)] 2 [.pv (.int .i64 0), .pv (.int .u64 0)]),
  (88, .strct [(0, 3, 1), (1, 80, 1)] 2 [.pv (.int .i64 0), .pv (.int .u64 0)]),
  (89, .func),
  (90, .func),
  (91, .func),
  (92, .func),
  (93, .ptr),
  (94, .func),
  (95, .func),
  (96, .func),
  (97, .func),
  (98, .func),
  (99, .func),
  (101, .int .u64),
  (102, .func),
  (103, .func),
  (104, .func),
  (105, .func),
  (106, .func),
  (107, .int .i64),
  (109, .func),
  (110, .func),
  (111, .func),
  (112, .func),
  (113, .func),
  (114, .func),
  (115, .int .u32),
  (116, .func),
  (117, .func),
  (118, .func),
  (119, .func),
  (120, .func),
  (121, .int .u64),
  (122, .func),
  (123, .func),
  (124, .func),
  (125, .ptr),
  (126, .func),
  (127, .func),
  (128, .func),
  (129, .ptr),
  (130, .func),
  (131, .func),
  (132, .func),
  (138, .func),
  (139, .int .u8),
  (140, .int .u8),
  (141, .func),
  (142, .ptr),
  (143, .int .i32),
  (144, .int .i32)]
def gl : List (Nat × Sq) := []
theorem te_ok : teOK Try.prog te = true := by kernel_rfl
def c1 : Code → Code
  | .seq a _ => a
  | c => c
def c2 : Code → Code
  | .seq _ a => a
  | c => c
def cT : Code → Code
  | .cond _ a _ => a
  | c => c
def cF : Code → Code
  | .cond _ _ a => a
  | c => c
def cB : Code → Code
  | .block _ a => a
  | c => c
def cL : Code → Code
  | .loop a => a
  | c => c
def cR : Code → Code
  | .rangeFunc _ _ _ a => a
  | c => c
end Go.Gw

/-
  The functions keep the contracts that their models give; printed by program (gen.py).
  Conditions: none.
-/
namespace Go.Gw
open Go Go.Gx Go.Proofs
set_option maxRecDepth 100000
namespace W_slices_Sort
def ent (_n : Nat) : Ent := sortIE 45 3
theorem all_ok (n : Nat) : EntOK Try.prog gl (ent n) := sortI_ok (by kernel_rfl) (fun blk off cap zs w h1 h2 h3 => Try.slices_Sort_int blk off cap zs w h1 h2 h3) (fun p cap w => Any.slices_Sort_int_none Try.lays189 p cap w)
end W_slices_Sort
namespace W_triple_lister_add
noncomputable def body : Code := Try.f29.body.getD .skip
def keep : List (Nat × List Nat) := []
noncomputable def used (n : Nat) : List Ent := [W_slices_Sort.ent n]
noncomputable def env (n : Nat) : Env := envOf te gl (used n) ⟨8, 25⟩ [] keep
noncomputable def tab (ρ : Type) (_n : Nat) : Tab ρ := { live := [(0, [0, 8]), (1, [0, 8]), (2, [0])], xl := [], rl := [0], fz := [], jp := [], lp := [] }
def enc (a : (List (List Int)) × Int × Int × Int × Int) : List AV := [.bx [.ow 41 (.rows a.1), .pv (.int .i64 a.2.1)], .pv (.int .i64 a.2.2.1), .pv (.int .i64 a.2.2.2.1), .pv (.int .i64 a.2.2.2.2)]
def dec : List AV → Option ((List (List Int)) × Int × Int × Int × Int)
  | [.bx [.ow 41 (.rows l0_0), .pv (.int .i64 l0_1)], .pv (.int .i64 a1), .pv (.int .i64 b2), .pv (.int .i64 c_3)] => some (l0_0, l0_1, a1, b2, c_3)
  | _ => none
def emb (b : (List (List Int)) × Int) : AV × List AV := (.tp [], [.bx [.ow 41 (.rows b.1), .pv (.int .i64 b.2)]])
def dr : AV → List AV → Option ((List (List Int)) × Int)
  | .tp [], [.bx [.ow 41 (.rows r0), .pv (.int .i64 r1)]] => some (r0, r1)
  | _, _ => none
theorem dec_ok (vs : List AV) (a : (List (List Int)) × Int × Int × Int × Int) (h : dec vs = some a) : vs = enc a := by
  unfold dec at h
  split at h
  · cases h; rfl
  · cases h
theorem dr_ok (v : AV) (o : List AV) (b : (List (List Int)) × Int) (h : dr v o = some b) : emb b = (v, o) := by
  unfold dr at h
  split at h
  · cases h; rfl
  · cases h
noncomputable def ent (n : Nat) : Ent := { f := 29, ms := [.io, .lend, .lend, .lend], α := (List (List Int)) × Int × Int × Int × Int, β := (List (List Int)) × Int, dec := dec, enc := enc, emb := emb, m := fun a => Gm.triple_lister_add n a.1 a.2.1 a.2.2.1 a.2.2.2.1 a.2.2.2.2, hdec := dec_ok }
theorem run (n : Nat) (a : (List (List Int)) × Int × Int × Int × Int) : AEO (env n) (answers ((List (List Int)) × Int) (used n) (used n)) (tab ((List (List Int)) × Int) n) body (frameOf (enc a) 0) (bodyO (env n) Try.f29.results.toList (enc a) dr) = (ent n).m a := by kernel_rfl
theorem ok (n : Nat) (hl : EntsOK Try.prog gl (used n)) : EntOK Try.prog gl (ent n) :=
  fnO_sound (P := Try.prog) (e := ent n) (fn := Try.f29) (body := body) (l := used n) (te := te) (gl := gl) (n := ⟨8, 25⟩) (cut := []) (keep := keep) (T := tab ((List (List Int)) × Int) n) (dr := dr) Try.func29 (by kernel_rfl) (by kernel_rfl) te_ok (by kernel_rfl) (by kernel_rfl) hl (show Cov _ (env n) (tab ((List (List Int)) × Int) n) body from ⟨trivial, ⟨trivial, trivial⟩⟩) dr_ok (fun a => ⟨rfl, rfl⟩) (run n)
theorem all_ok (n : Nat) : EntOK Try.prog gl (ent n) := ok n ⟨W_slices_Sort.all_ok n, trivial⟩
end W_triple_lister_add
namespace W_triple_system_bose
noncomputable def body : Code := Try.f36.body.getD .skip
def keep : List (Nat × List Nat) := [(2, [0, 1, 4, 12, 13]), (6, [0, 1, 4, 5, 6, 12, 13]), (10, [0, 1, 4, 5, 6, 7, 12, 13, 43])]
noncomputable def used (n : Nat) : List Ent := [W_triple_lister_add.ent n]
noncomputable def env (n : Nat) : Env := envOf te gl (used n) ⟨4, 69⟩ [] keep
def F10 (c : Int × Int × Int × Int × Int × Int × Int) (s : (List (List Int)) × Int × Int) : Fr := [(0, .bx [.ow 41 (.rows s.1), .pv (.int .i64 s.2.1)]), (1, .pv (.int .i64 c.1)), (4, .pv (.int .i64 c.2.1)), (5, .pv (.int .i64 c.2.2.1)), (6, .pv (.int .i64 c.2.2.2.1)), (7, .pv (.int .i64 c.2.2.2.2.1)), (12, .pv (.int .i64 c.2.2.2.2.2.1)), (13, .pv (.int .i64 c.2.2.2.2.2.2)), (43, .pv (.int .i64 s.2.2))]
def d10 : Fr → Option ((Int × Int × Int × Int × Int × Int × Int) × ((List (List Int)) × Int × Int))
  | [(0, .bx [.ow 41 (.rows toArray0_0), .pv (.int .i64 toArray0_1)]), (1, .pv (.int .i64 t1)), (4, .pv (.int .i64 t4)), (5, .pv (.int .i64 t5)), (6, .pv (.int .i64 t6)), (7, .pv (.int .i64 t7)), (12, .pv (.int .i64 t12)), (13, .pv (.int .i64 t13)), (43, .pv (.int .i64 t43))] => some ((t1, t4, t5, t6, t7, t12, t13), (toArray0_0, toArray0_1, t43))
  | _ => none
def st10 {ρ : Type} (n : Nat) (c : Int × Int × Int × Int × Int × Int × Int) (Ko : Exit → Fr → Option ρ) (s : (List (List Int)) × Int × Int) (nx : ((List (List Int)) × Int × Int) → Option ρ) : Option ρ :=
  Gm.triple_system_bose_s10 n c.1 c.2.1 c.2.2.1 c.2.2.2.1 c.2.2.2.2.1 c.2.2.2.2.2.1 c.2.2.2.2.2.2 s.1 s.2.1 s.2.2 (fun a0 a1 a2 => nx (a0, a1, a2)) (fun (y0 : List (List Int)) (y1 : Int) => Ko (.exit 4) [(0, .bx [.ow 41 (.rows y0), .pv (.int .i64 y1)]), (1, .pv (.int .i64 c.1)), (4, .pv (.int .i64 c.2.1)), (5, .pv (.int .i64 c.2.2.1)), (6, .pv (.int .i64 c.2.2.2.1)), (12, .pv (.int .i64 c.2.2.2.2.2.1)), (13, .pv (.int .i64 c.2.2.2.2.2.2))])
def F6 (c : Int × Int × Int × Int × Int) (s : (List (List Int)) × Int × Int) : Fr := [(0, .bx [.ow 41 (.rows s.1), .pv (.int .i64 s.2.1)]), (1, .pv (.int .i64 c.1)), (4, .pv (.int .i64 c.2.1)), (5, .pv (.int .i64 c.2.2.1)), (6, .pv (.int .i64 s.2.2)), (12, .pv (.int .i64 c.2.2.2.1)), (13, .pv (.int .i64 c.2.2.2.2))]
def d6 : Fr → Option ((Int × Int × Int × Int × Int) × ((List (List Int)) × Int × Int))
  | [(0, .bx [.ow 41 (.rows toArray0_0), .pv (.int .i64 toArray0_1)]), (1, .pv (.int .i64 t1)), (4, .pv (.int .i64 t4)), (5, .pv (.int .i64 t5)), (6, .pv (.int .i64 t6)), (12, .pv (.int .i64 t12)), (13, .pv (.int .i64 t13))] => some ((t1, t4, t5, t12, t13), (toArray0_0, toArray0_1, t6))
  | _ => none
def st6 {ρ : Type} (n : Nat) (c : Int × Int × Int × Int × Int) (Ko : Exit → Fr → Option ρ) (s : (List (List Int)) × Int × Int) (nx : ((List (List Int)) × Int × Int) → Option ρ) : Option ρ :=
  Gm.triple_system_bose_s6 n c.1 c.2.1 c.2.2.1 c.2.2.2.1 c.2.2.2.2 s.1 s.2.1 s.2.2 (fun a0 a1 a2 => nx (a0, a1, a2)) (fun (y0 : List (List Int)) (y1 : Int) => Ko (.exit 2) [(0, .bx [.ow 41 (.rows y0), .pv (.int .i64 y1)]), (1, .pv (.int .i64 c.1)), (4, .pv (.int .i64 c.2.1)), (12, .pv (.int .i64 c.2.2.2.1)), (13, .pv (.int .i64 c.2.2.2.2))])
def F2 (c : Int × Int × Int) (s : (List (List Int)) × Int × Int) : Fr := [(0, .bx [.ow 41 (.rows s.1), .pv (.int .i64 s.2.1)]), (1, .pv (.int .i64 c.1)), (4, .pv (.int .i64 c.2.1)), (12, .pv (.int .i64 c.2.2)), (13, .pv (.int .i64 s.2.2))]
def d2 : Fr → Option ((Int × Int × Int) × ((List (List Int)) × Int × Int))
  | [(0, .bx [.ow 41 (.rows toArray0_0), .pv (.int .i64 toArray0_1)]), (1, .pv (.int .i64 t1)), (4, .pv (.int .i64 t4)), (12, .pv (.int .i64 t12)), (13, .pv (.int .i64 t13))] => some ((t1, t4, t12), (toArray0_0, toArray0_1, t13))
  | _ => none
def st2 {ρ : Type} (n : Nat) (c : Int × Int × Int) (Ko : Exit → Fr → Option ρ) (s : (List (List Int)) × Int × Int) (nx : ((List (List Int)) × Int × Int) → Option ρ) : Option ρ :=
  Gm.triple_system_bose_s2 n c.1 c.2.1 c.2.2 s.1 s.2.1 s.2.2 (fun a0 a1 a2 => nx (a0, a1, a2)) (fun (y0 : List (List Int)) (y1 : Int) => Ko (.exit 0) [(0, .bx [.ow 41 (.rows y0), .pv (.int .i64 y1)])])
noncomputable def tab (ρ : Type) (n : Nat) : Tab ρ := { live := [(0, [0, 1, 4]), (1, [0, 1, 4, 12, 13]), (2, [0, 1, 4, 12, 13, 14]), (3, [0, 1, 4, 5, 12, 13]), (4, [0, 1, 4, 5, 12, 13]), (5, [0, 1, 4, 5, 6, 12, 13]), (6, [0, 1, 4, 5, 6, 12, 13, 32]), (7, [0, 1, 4, 5, 6, 12, 13]), (8, [0, 1, 4, 5, 6, 7, 12, 13]), (9, [0, 1, 4, 5, 6, 7, 12, 13, 43]), (10, [0, 1, 4, 5, 6, 7, 12, 13, 43, 44]), (11, [0, 1, 4, 5, 6, 7, 8, 12, 13, 43]), (12, [0, 1, 4, 5, 6, 7, 12, 13, 43]), (13, [0, 1, 4, 5, 6, 7, 12, 13, 43]), (14, [0, 1, 4, 12, 13])], xl := [(0, [0]), (1, [0, 1, 4, 12, 13]), (2, [0, 1, 4, 12, 13]), (3, [0, 1, 4, 5, 6, 12, 13]), (4, [0, 1, 4, 5, 6, 12, 13]), (5, [0, 1, 4, 5, 6, 7, 12, 13, 43])], rl := [0], fz := [], jp := [], lp := [(10, fun A Ko => bnd (d10 A) fun p => iterM (st10 n p.1 Ko) n p.2), (6, fun A Ko => bnd (d6 A) fun p => iterM (st6 n p.1 Ko) n p.2), (2, fun A Ko => bnd (d2 A) fun p => iterM (st2 n p.1 Ko) n p.2)] }
noncomputable def b10 : Code := (cL (cB (c2 (c2 (cB (c1 (c2 (cL (cB (c2 (c2 (c2 (cB (c1 (c2 (c2 (cL (cB (c2 (c2 body))))))))))))))))))))
theorem d10_ok (A : Fr) (c : Int × Int × Int × Int × Int × Int × Int) (s : (List (List Int)) × Int × Int) (h : d10 A = some (c, s)) : A = F10 c s := by
  unfold d10 at h
  split at h
  · cases h; rfl
  · cases h
theorem step10 (ρ : Type) (n : Nat) (c : Int × Int × Int × Int × Int × Int × Int) (Ko : Exit → Fr → Option ρ) (s : (List (List Int)) × Int × Int) (nx : (Int × Int × Int × Int × Int × Int × Int) → ((List (List Int)) × Int × Int) → Option ρ) :
    AEO (env n) (answers ρ (used n) (used n)) (tab ρ n) b10 (F10 c s) (thenO (fun A => bnd (d10 (restr (keepOf (env n) b10) A)) fun p => nx p.1 p.2) Ko) = st10 n c Ko s (nx c) := by kernel_rfl
theorem lp10_ok {ρ : Type} (n : Nat) (hl : EntsOK Try.prog gl (used n)) : ∀ (A : Fr) (Ko : Exit → Fr → Option ρ) (r : ρ) (K : Exit → Fr → Prop), (bnd (d10 (restr (keepOf (env n) b10) A)) fun p => iterM (st10 n p.1 Ko) n p.2) = some r → (∀ e A, Ko e A = some r → K e A) → Gx.Sem Try.prog (env n) (.loop b10) A K :=
  fun A Ko r K h hk => loop_cod (P := Try.prog) (E := env n) (T := tab ρ n) (fun _ _ _ h => answers_ok h) F10 d10 (st10 n) d10_ok (show Cov _ (env n) (tab ρ n) b10 from ⟨trivial, ⟨⟨trivial, trivial⟩, ⟨⟨trivial, trivial⟩, trivial⟩⟩⟩) (fun c Ko s nx => step10 ρ n c Ko s nx) n A Ko r K h hk
noncomputable def b6 : Code := (cL (cB (c2 (c2 (c2 (cB (c1 (c2 (c2 (cL (cB (c2 (c2 body)))))))))))))
theorem d6_ok (A : Fr) (c : Int × Int × Int × Int × Int) (s : (List (List Int)) × Int × Int) (h : d6 A = some (c, s)) : A = F6 c s := by
  unfold d6 at h
  split at h
  · cases h; rfl
  · cases h
theorem step6 (ρ : Type) (n : Nat) (c : Int × Int × Int × Int × Int) (Ko : Exit → Fr → Option ρ) (s : (List (List Int)) × Int × Int) (nx : (Int × Int × Int × Int × Int) → ((List (List Int)) × Int × Int) → Option ρ) :
    AEO (env n) (answers ρ (used n) (used n)) (tab ρ n) b6 (F6 c s) (thenO (fun A => bnd (d6 (restr (keepOf (env n) b6) A)) fun p => nx p.1 p.2) Ko) = st6 n c Ko s (nx c) := by kernel_rfl
theorem lp6_ok {ρ : Type} (n : Nat) (hl : EntsOK Try.prog gl (used n)) : ∀ (A : Fr) (Ko : Exit → Fr → Option ρ) (r : ρ) (K : Exit → Fr → Prop), (bnd (d6 (restr (keepOf (env n) b6) A)) fun p => iterM (st6 n p.1 Ko) n p.2) = some r → (∀ e A, Ko e A = some r → K e A) → Gx.Sem Try.prog (env n) (.loop b6) A K :=
  fun A Ko r K h hk => loop_cod (P := Try.prog) (E := env n) (T := tab ρ n) (fun _ _ _ h => answers_ok h) F6 d6 (st6 n) d6_ok (show Cov _ (env n) (tab ρ n) b6 from ⟨⟨trivial, ⟨trivial, trivial⟩⟩, ⟨⟨trivial, ⟨trivial, lp10_ok n hl⟩⟩, trivial⟩⟩) (fun c Ko s nx => step6 ρ n c Ko s nx) n A Ko r K h hk
noncomputable def b2 : Code := (cL (cB (c2 (c2 body))))
theorem d2_ok (A : Fr) (c : Int × Int × Int) (s : (List (List Int)) × Int × Int) (h : d2 A = some (c, s)) : A = F2 c s := by
  unfold d2 at h
  split at h
  · cases h; rfl
  · cases h
theorem step2 (ρ : Type) (n : Nat) (c : Int × Int × Int) (Ko : Exit → Fr → Option ρ) (s : (List (List Int)) × Int × Int) (nx : (Int × Int × Int) → ((List (List Int)) × Int × Int) → Option ρ) :
    AEO (env n) (answers ρ (used n) (used n)) (tab ρ n) b2 (F2 c s) (thenO (fun A => bnd (d2 (restr (keepOf (env n) b2) A)) fun p => nx p.1 p.2) Ko) = st2 n c Ko s (nx c) := by kernel_rfl
theorem lp2_ok {ρ : Type} (n : Nat) (hl : EntsOK Try.prog gl (used n)) : ∀ (A : Fr) (Ko : Exit → Fr → Option ρ) (r : ρ) (K : Exit → Fr → Prop), (bnd (d2 (restr (keepOf (env n) b2) A)) fun p => iterM (st2 n p.1 Ko) n p.2) = some r → (∀ e A, Ko e A = some r → K e A) → Gx.Sem Try.prog (env n) (.loop b2) A K :=
  fun A Ko r K h hk => loop_cod (P := Try.prog) (E := env n) (T := tab ρ n) (fun _ _ _ h => answers_ok h) F2 d2 (st2 n) d2_ok (show Cov _ (env n) (tab ρ n) b2 from ⟨trivial, ⟨⟨trivial, trivial⟩, ⟨⟨trivial, ⟨trivial, ⟨trivial, lp6_ok n hl⟩⟩⟩, trivial⟩⟩⟩) (fun c Ko s nx => step2 ρ n c Ko s nx) n A Ko r K h hk
def enc (a : (List (List Int)) × Int × Int) : List AV := [.bx [.ow 41 (.rows a.1), .pv (.int .i64 a.2.1)], .pv (.int .i64 a.2.2)]
def dec : List AV → Option ((List (List Int)) × Int × Int)
  | [.bx [.ow 41 (.rows toArray0_0), .pv (.int .i64 toArray0_1)], .pv (.int .i64 t1)] => some (toArray0_0, toArray0_1, t1)
  | _ => none
def emb (b : (List (List Int)) × Int) : AV × List AV := (.tp [], [.bx [.ow 41 (.rows b.1), .pv (.int .i64 b.2)]])
def dr : AV → List AV → Option ((List (List Int)) × Int)
  | .tp [], [.bx [.ow 41 (.rows r0), .pv (.int .i64 r1)]] => some (r0, r1)
  | _, _ => none
theorem dec_ok (vs : List AV) (a : (List (List Int)) × Int × Int) (h : dec vs = some a) : vs = enc a := by
  unfold dec at h
  split at h
  · cases h; rfl
  · cases h
theorem dr_ok (v : AV) (o : List AV) (b : (List (List Int)) × Int) (h : dr v o = some b) : emb b = (v, o) := by
  unfold dr at h
  split at h
  · cases h; rfl
  · cases h
noncomputable def ent (n : Nat) : Ent := { f := 36, ms := [.io, .lend], α := (List (List Int)) × Int × Int, β := (List (List Int)) × Int, dec := dec, enc := enc, emb := emb, m := fun a => Gm.triple_system_bose n a.1 a.2.1 a.2.2, hdec := dec_ok }
theorem run (n : Nat) (a : (List (List Int)) × Int × Int) : AEO (env n) (answers ((List (List Int)) × Int) (used n) (used n)) (tab ((List (List Int)) × Int) n) body (frameOf (enc a) 0) (bodyO (env n) Try.f36.results.toList (enc a) dr) = (ent n).m a := by kernel_rfl
theorem ok (n : Nat) (hl : EntsOK Try.prog gl (used n)) : EntOK Try.prog gl (ent n) :=
  fnO_sound (P := Try.prog) (e := ent n) (fn := Try.f36) (body := body) (l := used n) (te := te) (gl := gl) (n := ⟨4, 69⟩) (cut := []) (keep := keep) (T := tab ((List (List Int)) × Int) n) (dr := dr) Try.func36 (by kernel_rfl) (by kernel_rfl) te_ok (by kernel_rfl) (by kernel_rfl) hl (show Cov _ (env n) (tab ((List (List Int)) × Int) n) body from ⟨trivial, ⟨trivial, lp2_ok n hl⟩⟩) dr_ok (fun a => ⟨rfl, rfl⟩) (run n)
theorem all_ok (n : Nat) : EntOK Try.prog gl (ent n) := ok n ⟨W_triple_lister_add.all_ok n, trivial⟩
end W_triple_system_bose
namespace W_cmp_isNaN_int
noncomputable def body : Code := Try.f83.body.getD .skip
def keep : List (Nat × List Nat) := []
noncomputable def used (_n : Nat) : List Ent := []
noncomputable def env (n : Nat) : Env := envOf te gl (used n) ⟨2, 6⟩ [] keep
noncomputable def tab (ρ : Type) (_n : Nat) : Tab ρ := { live := [(0, [0]), (1, [2])], xl := [], rl := [2], fz := [], jp := [], lp := [] }
def enc (a : Int) : List AV := [.pv (.int .i64 a)]
def dec : List AV → Option (Int)
  | [.pv (.int .i64 x0)] => some x0
  | _ => none
def emb (b : Bool) : AV × List AV := (.pv (.bool b), [])
def dr : AV → List AV → Option (Bool)
  | .pv (.bool r0), [] => some r0
  | _, _ => none
theorem dec_ok (vs : List AV) (a : Int) (h : dec vs = some a) : vs = enc a := by
  unfold dec at h
  split at h
  · cases h; rfl
  · cases h
theorem dr_ok (v : AV) (o : List AV) (b : Bool) (h : dr v o = some b) : emb b = (v, o) := by
  unfold dr at h
  split at h
  · cases h; rfl
  · cases h
noncomputable def ent (n : Nat) : Ent := { f := 83, ms := [.lend], α := Int, β := Bool, dec := dec, enc := enc, emb := emb, m := fun a => Gm.cmp_isNaN_int n a, hdec := dec_ok }
theorem run (n : Nat) (a : Int) : AEO (env n) (answers (Bool) (used n) (used n)) (tab (Bool) n) body (frameOf (enc a) 0) (bodyO (env n) Try.f83.results.toList (enc a) dr) = (ent n).m a := by kernel_rfl
theorem ok (n : Nat) (hl : EntsOK Try.prog gl (used n)) : EntOK Try.prog gl (ent n) :=
  fnO_sound (P := Try.prog) (e := ent n) (fn := Try.f83) (body := body) (l := used n) (te := te) (gl := gl) (n := ⟨2, 6⟩) (cut := []) (keep := keep) (T := tab (Bool) n) (dr := dr) Try.func83 (by kernel_rfl) (by kernel_rfl) te_ok (by kernel_rfl) (by kernel_rfl) hl (show Cov _ (env n) (tab (Bool) n) body from ⟨trivial, ⟨trivial, trivial⟩⟩) dr_ok (fun a => ⟨rfl, rfl⟩) (run n)
theorem all_ok (n : Nat) : EntOK Try.prog gl (ent n) := ok n trivial
end W_cmp_isNaN_int
namespace W_cmp_Compare_int
noncomputable def body : Code := Try.f63.body.getD .skip
def keep : List (Nat × List Nat) := []
noncomputable def used (n : Nat) : List Ent := [W_cmp_isNaN_int.ent n]
noncomputable def env (n : Nat) : Env := envOf te gl (used n) ⟨4, 20⟩ [] keep
noncomputable def tab (ρ : Type) (_n : Nat) : Tab ρ := { live := [(0, [0, 1]), (1, [0, 1, 5]), (2, [0, 1, 5, 6]), (3, [0, 1, 6, 11]), (4, [12]), (5, [4]), (6, [4]), (7, [0, 1, 13]), (8, [4]), (9, [0, 1, 16]), (10, [4]), (11, [19]), (12, [4]), (13, [4])], xl := [], rl := [4], fz := [], jp := [], lp := [] }
def enc (a : Int × Int) : List AV := [.pv (.int .i64 a.1), .pv (.int .i64 a.2)]
def dec : List AV → Option (Int × Int)
  | [.pv (.int .i64 x0), .pv (.int .i64 y1)] => some (x0, y1)
  | _ => none
def emb (b : Int) : AV × List AV := (.pv (.int .i64 b), [])
def dr : AV → List AV → Option (Int)
  | .pv (.int .i64 r0), [] => some r0
  | _, _ => none
theorem dec_ok (vs : List AV) (a : Int × Int) (h : dec vs = some a) : vs = enc a := by
  unfold dec at h
  split at h
  · cases h; rfl
  · cases h
theorem dr_ok (v : AV) (o : List AV) (b : Int) (h : dr v o = some b) : emb b = (v, o) := by
  unfold dr at h
  split at h
  · cases h; rfl
  · cases h
noncomputable def ent (n : Nat) : Ent := { f := 63, ms := [.lend, .lend], α := Int × Int, β := Int, dec := dec, enc := enc, emb := emb, m := fun a => Gm.cmp_Compare_int n a.1 a.2, hdec := dec_ok }
theorem run (n : Nat) (a : Int × Int) : AEO (env n) (answers (Int) (used n) (used n)) (tab (Int) n) body (frameOf (enc a) 0) (bodyO (env n) Try.f63.results.toList (enc a) dr) = (ent n).m a := by kernel_rfl
theorem ok (n : Nat) (hl : EntsOK Try.prog gl (used n)) : EntOK Try.prog gl (ent n) :=
  fnO_sound (P := Try.prog) (e := ent n) (fn := Try.f63) (body := body) (l := used n) (te := te) (gl := gl) (n := ⟨4, 20⟩) (cut := []) (keep := keep) (T := tab (Int) n) (dr := dr) Try.func63 (by kernel_rfl) (by kernel_rfl) te_ok (by kernel_rfl) (by kernel_rfl) hl (show Cov _ (env n) (tab (Int) n) body from ⟨trivial, ⟨trivial, ⟨trivial, ⟨⟨trivial, ⟨⟨⟨trivial, ⟨⟨trivial, trivial⟩, trivial⟩⟩, ⟨trivial, trivial⟩⟩, trivial⟩⟩, ⟨⟨trivial, ⟨⟨trivial, trivial⟩, trivial⟩⟩, ⟨⟨trivial, ⟨⟨trivial, trivial⟩, trivial⟩⟩, ⟨⟨trivial, ⟨⟨trivial, trivial⟩, trivial⟩⟩, ⟨trivial, trivial⟩⟩⟩⟩⟩⟩⟩⟩) dr_ok (fun a => ⟨rfl, rfl⟩) (run n)
theorem all_ok (n : Nat) : EntOK Try.prog gl (ent n) := ok n ⟨W_cmp_isNaN_int.all_ok n, trivial⟩
end W_cmp_Compare_int
namespace W_slices_Compare_intint
noncomputable def body : Code := Try.f52.body.getD .skip
def keep : List (Nat × List Nat) := [(2, [0, 1, 9, 10, 11])]
noncomputable def used (n : Nat) : List Ent := [W_cmp_Compare_int.ent n]
noncomputable def env (n : Nat) : Env := envOf te gl (used n) ⟨4, 36⟩ [] keep
def F2 (c : (List Int) × (List Int) × (List Int) × Int) (s : Int) : Fr := [(0, .ls (.ints .i64 c.1)), (1, .ls (.ints .i64 c.2.1)), (9, .ls (.ints .i64 c.2.2.1)), (10, .pv (.int .i64 c.2.2.2)), (11, .pv (.int .i64 s))]
def d2 : Fr → Option (((List Int) × (List Int) × (List Int) × Int) × (Int))
  | [(0, .ls (.ints .i64 s10)), (1, .ls (.ints .i64 s21)), (9, .ls (.ints .i64 t9)), (10, .pv (.int .i64 t10)), (11, .pv (.int .i64 t11))] => some ((s10, s21, t9, t10), t11)
  | _ => none
def st2 {ρ : Type} (n : Nat) (c : (List Int) × (List Int) × (List Int) × Int) (Ko : Exit → Fr → Option ρ) (s : Int) (nx : Int → Option ρ) : Option ρ :=
  Gm.slices_Compare_intint_s2 n c.1 c.2.1 c.2.2.1 c.2.2.2 s nx (Ko .ret [(4, .pv (.int .i64 1))]) (fun (y0 : Int) => Ko .ret [(4, .pv (.int .i64 y0))]) (Ko (.exit 0) [(0, .ls (.ints .i64 c.1)), (1, .ls (.ints .i64 c.2.1))])
noncomputable def tab (ρ : Type) (n : Nat) : Tab ρ := { live := [(0, [0, 1]), (1, [0, 1, 9, 10, 11]), (2, [0, 1, 9, 10, 11, 12]), (3, [0, 1, 5, 6, 9, 10, 11]), (4, [0, 1, 5, 6, 9, 10, 11, 19]), (5, [4]), (6, [0, 1, 6, 7, 9, 10, 11]), (7, [0, 1, 8, 9, 10, 11]), (8, [0, 1, 8, 9, 10, 11, 28]), (9, [4]), (10, [0, 1, 9, 10, 11]), (11, [35]), (12, [4]), (13, [4])], xl := [(0, [0, 1]), (1, [0, 1, 9, 10, 11])], rl := [4], fz := [], jp := [], lp := [(2, fun A Ko => bnd (d2 A) fun p => iterM (st2 n p.1 Ko) n p.2)] }
noncomputable def b2 : Code := (cL (cB (c2 (c1 (c2 body)))))
theorem d2_ok (A : Fr) (c : (List Int) × (List Int) × (List Int) × Int) (s : Int) (h : d2 A = some (c, s)) : A = F2 c s := by
  unfold d2 at h
  split at h
  · cases h; rfl
  · cases h
theorem step2 (ρ : Type) (n : Nat) (c : (List Int) × (List Int) × (List Int) × Int) (Ko : Exit → Fr → Option ρ) (s : Int) (nx : ((List Int) × (List Int) × (List Int) × Int) → (Int) → Option ρ) :
    AEO (env n) (answers ρ (used n) (used n)) (tab ρ n) b2 (F2 c s) (thenO (fun A => bnd (d2 (restr (keepOf (env n) b2) A)) fun p => nx p.1 p.2) Ko) = st2 n c Ko s (nx c) := by kernel_rfl
theorem lp2_ok {ρ : Type} (n : Nat) (hl : EntsOK Try.prog gl (used n)) : ∀ (A : Fr) (Ko : Exit → Fr → Option ρ) (r : ρ) (K : Exit → Fr → Prop), (bnd (d2 (restr (keepOf (env n) b2) A)) fun p => iterM (st2 n p.1 Ko) n p.2) = some r → (∀ e A, Ko e A = some r → K e A) → Gx.Sem Try.prog (env n) (.loop b2) A K :=
  fun A Ko r K h hk => loop_cod (P := Try.prog) (E := env n) (T := tab ρ n) (fun _ _ _ h => answers_ok h) F2 d2 (st2 n) d2_ok (show Cov _ (env n) (tab ρ n) b2 from ⟨trivial, ⟨⟨trivial, trivial⟩, ⟨⟨trivial, ⟨⟨trivial, ⟨⟨trivial, trivial⟩, trivial⟩⟩, ⟨trivial, ⟨trivial, ⟨trivial, ⟨⟨trivial, trivial⟩, trivial⟩⟩⟩⟩⟩⟩, trivial⟩⟩⟩) (fun c Ko s nx => step2 ρ n c Ko s nx) n A Ko r K h hk
def enc (a : (List Int) × (List Int)) : List AV := [.ls (.ints .i64 a.1), .ls (.ints .i64 a.2)]
def dec : List AV → Option ((List Int) × (List Int))
  | [.ls (.ints .i64 s10), .ls (.ints .i64 s21)] => some (s10, s21)
  | _ => none
def emb (b : Int) : AV × List AV := (.pv (.int .i64 b), [])
def dr : AV → List AV → Option (Int)
  | .pv (.int .i64 r0), [] => some r0
  | _, _ => none
theorem dec_ok (vs : List AV) (a : (List Int) × (List Int)) (h : dec vs = some a) : vs = enc a := by
  unfold dec at h
  split at h
  · cases h; rfl
  · cases h
theorem dr_ok (v : AV) (o : List AV) (b : Int) (h : dr v o = some b) : emb b = (v, o) := by
  unfold dr at h
  split at h
  · cases h; rfl
  · cases h
noncomputable def ent (n : Nat) : Ent := { f := 52, ms := [.lend, .lend], α := (List Int) × (List Int), β := Int, dec := dec, enc := enc, emb := emb, m := fun a => Gm.slices_Compare_intint n a.1 a.2, hdec := dec_ok }
theorem run (n : Nat) (a : (List Int) × (List Int)) : AEO (env n) (answers (Int) (used n) (used n)) (tab (Int) n) body (frameOf (enc a) 0) (bodyO (env n) Try.f52.results.toList (enc a) dr) = (ent n).m a := by kernel_rfl
theorem ok (n : Nat) (hl : EntsOK Try.prog gl (used n)) : EntOK Try.prog gl (ent n) :=
  fnO_sound (P := Try.prog) (e := ent n) (fn := Try.f52) (body := body) (l := used n) (te := te) (gl := gl) (n := ⟨4, 36⟩) (cut := []) (keep := keep) (T := tab (Int) n) (dr := dr) Try.func52 (by kernel_rfl) (by kernel_rfl) te_ok (by kernel_rfl) (by kernel_rfl) hl (show Cov _ (env n) (tab (Int) n) body from ⟨trivial, ⟨⟨trivial, lp2_ok n hl⟩, ⟨⟨trivial, ⟨⟨trivial, trivial⟩, trivial⟩⟩, ⟨trivial, trivial⟩⟩⟩⟩) dr_ok (fun a => ⟨rfl, rfl⟩) (run n)
theorem all_ok (n : Nat) : EntOK Try.prog gl (ent n) := ok n ⟨W_cmp_Compare_int.all_ok n, trivial⟩
end W_slices_Compare_intint
namespace W_triple_system_design_1
noncomputable def body : Code := Try.f51.body.getD .skip
def keep : List (Nat × List Nat) := []
noncomputable def used (n : Nat) : List Ent := [W_slices_Compare_intint.ent n]
noncomputable def env (n : Nat) : Env := envOf te gl (used n) ⟨4, 8⟩ [] keep
noncomputable def tab (ρ : Type) (_n : Nat) : Tab ρ := { live := [(0, [0, 1]), (1, [4])], xl := [], rl := [4], fz := [], jp := [], lp := [] }
def enc (a : (List Int) × (List Int)) : List AV := [.ls (.ints .i64 a.1), .ls (.ints .i64 a.2)]
def dec : List AV → Option ((List Int) × (List Int))
  | [.ls (.ints .i64 a0), .ls (.ints .i64 b1)] => some (a0, b1)
  | _ => none
def emb (b : Int) : AV × List AV := (.pv (.int .i64 b), [])
def dr : AV → List AV → Option (Int)
  | .pv (.int .i64 r0), [] => some r0
  | _, _ => none
theorem dec_ok (vs : List AV) (a : (List Int) × (List Int)) (h : dec vs = some a) : vs = enc a := by
  unfold dec at h
  split at h
  · cases h; rfl
  · cases h
theorem dr_ok (v : AV) (o : List AV) (b : Int) (h : dr v o = some b) : emb b = (v, o) := by
  unfold dr at h
  split at h
  · cases h; rfl
  · cases h
noncomputable def ent (n : Nat) : Ent := { f := 51, ms := [.lend, .lend], α := (List Int) × (List Int), β := Int, dec := dec, enc := enc, emb := emb, m := fun a => Gm.triple_system_design_1 n a.1 a.2, hdec := dec_ok }
theorem run (n : Nat) (a : (List Int) × (List Int)) : AEO (env n) (answers (Int) (used n) (used n)) (tab (Int) n) body (frameOf (enc a) 0) (bodyO (env n) Try.f51.results.toList (enc a) dr) = (ent n).m a := by kernel_rfl
theorem ok (n : Nat) (hl : EntsOK Try.prog gl (used n)) : EntOK Try.prog gl (ent n) :=
  fnO_sound (P := Try.prog) (e := ent n) (fn := Try.f51) (body := body) (l := used n) (te := te) (gl := gl) (n := ⟨4, 8⟩) (cut := []) (keep := keep) (T := tab (Int) n) (dr := dr) Try.func51 (by kernel_rfl) (by kernel_rfl) te_ok (by kernel_rfl) (by kernel_rfl) hl (show Cov _ (env n) (tab (Int) n) body from ⟨trivial, ⟨trivial, trivial⟩⟩) dr_ok (fun a => ⟨rfl, rfl⟩) (run n)
theorem all_ok (n : Nat) : EntOK Try.prog gl (ent n) := ok n ⟨W_slices_Compare_intint.all_ok n, trivial⟩
end W_triple_system_design_1
namespace W_slices_SortFunc__triple_system_design_1
def ent (n : Nat) : Ent := sortLE 50 41 51 n
theorem all_ok (n : Nat) : EntOK Try.prog gl (ent n) := sortL_ok (g := 51) (n := n) (ce := W_triple_system_design_1.ent n) (by kernel_rfl) (fun α _ enc h1 cf h2 cb blk off cap d w eg h3 h4 h5 h6 => Any.slices_SortFunc Try.sortL enc h1 cf h2 51 cb blk off cap d w eg h3 h4 h5 h6) (fun p cap fv w => AnyF.slices_SortFunc_none (P := Try.prog) (ρ := Try.sortL_ren) { Try.sortL with } p cap fv w) (W_triple_system_design_1.all_ok n) rfl (fun a b ha hb => ⟨(a, b), cmpL a b, rfl, Law.triple_system_design_1_eq n a b ha hb, rfl⟩)
end W_slices_SortFunc__triple_system_design_1
namespace W_triple_system_design
noncomputable def body : Code := Try.f32.body.getD .skip
def keep : List (Nat × List Nat) := []
noncomputable def used (n : Nat) : List Ent := [W_slices_SortFunc__triple_system_design_1.ent n]
noncomputable def env (n : Nat) : Env := envOf te gl (used n) ⟨2, 19⟩ [] keep
noncomputable def tab (ρ : Type) (_n : Nat) : Tab ρ := { live := [(0, [0, 2]), (1, [0, 2]), (2, [0, 2])], xl := [], rl := [0, 2], fz := [], jp := [], lp := [] }
def enc (a : (List (List Int)) × Int) : List AV := [.bx [.ow 41 (.rows a.1), .pv (.int .i64 a.2)]]
def dec : List AV → Option ((List (List Int)) × Int)
  | [.bx [.ow 41 (.rows s_0_0), .pv (.int .i64 s_0_1)]] => some (s_0_0, s_0_1)
  | _ => none
def emb (b : Int × (List (List Int)) × (List (List Int)) × Int) : AV × List AV := (.ag [.pv (.int .i64 b.1), .sl (.rows b.2.1)], [.bx [.sl (.rows b.2.2.1), .pv (.int .i64 b.2.2.2)]])
def dr : AV → List AV → Option (Int × (List (List Int)) × (List (List Int)) × Int)
  | .ag [.pv (.int .i64 r0), .sl (.rows r1)], [.bx [.sl (.rows r2), .pv (.int .i64 r3)]] => some (r0, r1, r2, r3)
  | _, _ => none
theorem dec_ok (vs : List AV) (a : (List (List Int)) × Int) (h : dec vs = some a) : vs = enc a := by
  unfold dec at h
  split at h
  · cases h; rfl
  · cases h
theorem dr_ok (v : AV) (o : List AV) (b : Int × (List (List Int)) × (List (List Int)) × Int) (h : dr v o = some b) : emb b = (v, o) := by
  unfold dr at h
  split at h
  · cases h; rfl
  · cases h
noncomputable def ent (n : Nat) : Ent := { f := 32, ms := [.io], α := (List (List Int)) × Int, β := Int × (List (List Int)) × (List (List Int)) × Int, dec := dec, enc := enc, emb := emb, m := fun a => Gm.triple_system_design n a.1 a.2, hdec := dec_ok }
theorem run (n : Nat) (a : (List (List Int)) × Int) : AEO (env n) (answers (Int × (List (List Int)) × (List (List Int)) × Int) (used n) (used n)) (tab (Int × (List (List Int)) × (List (List Int)) × Int) n) body (frameOf (enc a) 0) (bodyO (env n) Try.f32.results.toList (enc a) dr) = (ent n).m a := by kernel_rfl
theorem ok (n : Nat) (hl : EntsOK Try.prog gl (used n)) : EntOK Try.prog gl (ent n) :=
  fnO_sound (P := Try.prog) (e := ent n) (fn := Try.f32) (body := body) (l := used n) (te := te) (gl := gl) (n := ⟨2, 19⟩) (cut := []) (keep := keep) (T := tab (Int × (List (List Int)) × (List (List Int)) × Int) n) (dr := dr) Try.func32 (by kernel_rfl) (by kernel_rfl) te_ok (by kernel_rfl) (by kernel_rfl) hl (show Cov _ (env n) (tab (Int × (List (List Int)) × (List (List Int)) × Int) n) body from ⟨trivial, ⟨trivial, ⟨trivial, trivial⟩⟩⟩) dr_ok (fun a => ⟨rfl, rfl⟩) (run n)
theorem all_ok (n : Nat) : EntOK Try.prog gl (ent n) := ok n ⟨W_slices_SortFunc__triple_system_design_1.all_ok n, trivial⟩
end W_triple_system_design
namespace W_triple_system_skolem
noncomputable def body : Code := Try.f37.body.getD .skip
def keep : List (Nat × List Nat) := [(2, [0, 1, 4, 13, 14]), (6, [0, 1, 4, 5, 13, 14, 29]), (12, [0, 1, 4, 54, 55]), (15, [0, 1, 4, 7, 8, 54, 55]), (22, [0, 1, 4, 7, 8, 9, 54, 55, 80])]
noncomputable def used (n : Nat) : List Ent := [W_triple_lister_add.ent n]
noncomputable def env (n : Nat) : Env := envOf te gl (used n) ⟨4, 106⟩ [] keep
def F6 (c : Int × Int × Int × Int × Int) (s : (List (List Int)) × Int × Int) : Fr := [(0, .bx [.ow 41 (.rows s.1), .pv (.int .i64 s.2.1)]), (1, .pv (.int .i64 c.1)), (4, .pv (.int .i64 c.2.1)), (5, .pv (.int .i64 c.2.2.1)), (13, .pv (.int .i64 c.2.2.2.1)), (14, .pv (.int .i64 c.2.2.2.2)), (29, .pv (.int .i64 s.2.2))]
def d6 : Fr → Option ((Int × Int × Int × Int × Int) × ((List (List Int)) × Int × Int))
  | [(0, .bx [.ow 41 (.rows toArray0_0), .pv (.int .i64 toArray0_1)]), (1, .pv (.int .i64 t1)), (4, .pv (.int .i64 t4)), (5, .pv (.int .i64 t5)), (13, .pv (.int .i64 t13)), (14, .pv (.int .i64 t14)), (29, .pv (.int .i64 t29))] => some ((t1, t4, t5, t13, t14), (toArray0_0, toArray0_1, t29))
  | _ => none
def st6 {ρ : Type} (n : Nat) (c : Int × Int × Int × Int × Int) (Ko : Exit → Fr → Option ρ) (s : (List (List Int)) × Int × Int) (nx : ((List (List Int)) × Int × Int) → Option ρ) : Option ρ :=
  Gm.triple_system_skolem_s6 n c.1 c.2.1 c.2.2.1 c.2.2.2.1 c.2.2.2.2 s.1 s.2.1 s.2.2 (fun a0 a1 a2 => nx (a0, a1, a2)) (fun (y0 : List (List Int)) (y1 : Int) => Ko (.exit 2) [(0, .bx [.ow 41 (.rows y0), .pv (.int .i64 y1)]), (1, .pv (.int .i64 c.1)), (4, .pv (.int .i64 c.2.1)), (13, .pv (.int .i64 c.2.2.2.1)), (14, .pv (.int .i64 c.2.2.2.2))])
def F2 (c : Int × Int × Int) (s : (List (List Int)) × Int × Int) : Fr := [(0, .bx [.ow 41 (.rows s.1), .pv (.int .i64 s.2.1)]), (1, .pv (.int .i64 c.1)), (4, .pv (.int .i64 c.2.1)), (13, .pv (.int .i64 c.2.2)), (14, .pv (.int .i64 s.2.2))]
def d2 : Fr → Option ((Int × Int × Int) × ((List (List Int)) × Int × Int))
  | [(0, .bx [.ow 41 (.rows toArray0_0), .pv (.int .i64 toArray0_1)]), (1, .pv (.int .i64 t1)), (4, .pv (.int .i64 t4)), (13, .pv (.int .i64 t13)), (14, .pv (.int .i64 t14))] => some ((t1, t4, t13), (toArray0_0, toArray0_1, t14))
  | _ => none
def st2 {ρ : Type} (n : Nat) (c : Int × Int × Int) (Ko : Exit → Fr → Option ρ) (s : (List (List Int)) × Int × Int) (nx : ((List (List Int)) × Int × Int) → Option ρ) : Option ρ :=
  Gm.triple_system_skolem_s2 n c.1 c.2.1 c.2.2 s.1 s.2.1 s.2.2 (fun a0 a1 a2 => nx (a0, a1, a2)) (fun (y0 : List (List Int)) (y1 : Int) => Ko (.exit 0) [(0, .bx [.ow 41 (.rows y0), .pv (.int .i64 y1)]), (1, .pv (.int .i64 c.1)), (4, .pv (.int .i64 c.2.1))])
def F22 (c : Int × Int × Int × Int × Int × Int × Int) (s : (List (List Int)) × Int × Int) : Fr := [(0, .bx [.ow 41 (.rows s.1), .pv (.int .i64 s.2.1)]), (1, .pv (.int .i64 c.1)), (4, .pv (.int .i64 c.2.1)), (7, .pv (.int .i64 c.2.2.1)), (8, .pv (.int .i64 c.2.2.2.1)), (9, .pv (.int .i64 c.2.2.2.2.1)), (54, .pv (.int .i64 c.2.2.2.2.2.1)), (55, .pv (.int .i64 c.2.2.2.2.2.2)), (80, .pv (.int .i64 s.2.2))]
def d22 : Fr → Option ((Int × Int × Int × Int × Int × Int × Int) × ((List (List Int)) × Int × Int))
  | [(0, .bx [.ow 41 (.rows toArray0_0), .pv (.int .i64 toArray0_1)]), (1, .pv (.int .i64 t1)), (4, .pv (.int .i64 t4)), (7, .pv (.int .i64 t7)), (8, .pv (.int .i64 t8)), (9, .pv (.int .i64 t9)), (54, .pv (.int .i64 t54)), (55, .pv (.int .i64 t55)), (80, .pv (.int .i64 t80))] => some ((t1, t4, t7, t8, t9, t54, t55), (toArray0_0, toArray0_1, t80))
  | _ => none
def st22 {ρ : Type} (n : Nat) (c : Int × Int × Int × Int × Int × Int × Int) (Ko : Exit → Fr → Option ρ) (s : (List (List Int)) × Int × Int) (nx : ((List (List Int)) × Int × Int) → Option ρ) : Option ρ :=
  Gm.triple_system_skolem_s22 n c.1 c.2.1 c.2.2.1 c.2.2.2.1 c.2.2.2.2.1 c.2.2.2.2.2.1 c.2.2.2.2.2.2 s.1 s.2.1 s.2.2 (fun a0 a1 a2 => nx (a0, a1, a2)) (fun (y0 : List (List Int)) (y1 : Int) => Ko (.exit 8) [(0, .bx [.ow 41 (.rows y0), .pv (.int .i64 y1)]), (1, .pv (.int .i64 c.1)), (4, .pv (.int .i64 c.2.1)), (7, .pv (.int .i64 c.2.2.1)), (8, .pv (.int .i64 c.2.2.2.1)), (54, .pv (.int .i64 c.2.2.2.2.2.1)), (55, .pv (.int .i64 c.2.2.2.2.2.2))])
def F15 (c : Int × Int × Int × Int × Int) (s : (List (List Int)) × Int × Int) : Fr := [(0, .bx [.ow 41 (.rows s.1), .pv (.int .i64 s.2.1)]), (1, .pv (.int .i64 c.1)), (4, .pv (.int .i64 c.2.1)), (7, .pv (.int .i64 c.2.2.1)), (8, .pv (.int .i64 s.2.2)), (54, .pv (.int .i64 c.2.2.2.1)), (55, .pv (.int .i64 c.2.2.2.2))]
def d15 : Fr → Option ((Int × Int × Int × Int × Int) × ((List (List Int)) × Int × Int))
  | [(0, .bx [.ow 41 (.rows toArray0_0), .pv (.int .i64 toArray0_1)]), (1, .pv (.int .i64 t1)), (4, .pv (.int .i64 t4)), (7, .pv (.int .i64 t7)), (8, .pv (.int .i64 t8)), (54, .pv (.int .i64 t54)), (55, .pv (.int .i64 t55))] => some ((t1, t4, t7, t54, t55), (toArray0_0, toArray0_1, t8))
  | _ => none
def st15 {ρ : Type} (n : Nat) (c : Int × Int × Int × Int × Int) (Ko : Exit → Fr → Option ρ) (s : (List (List Int)) × Int × Int) (nx : ((List (List Int)) × Int × Int) → Option ρ) : Option ρ :=
  Gm.triple_system_skolem_s15 n c.1 c.2.1 c.2.2.1 c.2.2.2.1 c.2.2.2.2 s.1 s.2.1 s.2.2 (fun a0 a1 a2 => nx (a0, a1, a2)) (fun (y0 : List (List Int)) (y1 : Int) => Ko (.exit 6) [(0, .bx [.ow 41 (.rows y0), .pv (.int .i64 y1)]), (1, .pv (.int .i64 c.1)), (4, .pv (.int .i64 c.2.1)), (54, .pv (.int .i64 c.2.2.2.1)), (55, .pv (.int .i64 c.2.2.2.2))])
def F12 (c : Int × Int × Int) (s : (List (List Int)) × Int × Int) : Fr := [(0, .bx [.ow 41 (.rows s.1), .pv (.int .i64 s.2.1)]), (1, .pv (.int .i64 c.1)), (4, .pv (.int .i64 c.2.1)), (54, .pv (.int .i64 c.2.2)), (55, .pv (.int .i64 s.2.2))]
def d12 : Fr → Option ((Int × Int × Int) × ((List (List Int)) × Int × Int))
  | [(0, .bx [.ow 41 (.rows toArray0_0), .pv (.int .i64 toArray0_1)]), (1, .pv (.int .i64 t1)), (4, .pv (.int .i64 t4)), (54, .pv (.int .i64 t54)), (55, .pv (.int .i64 t55))] => some ((t1, t4, t54), (toArray0_0, toArray0_1, t55))
  | _ => none
def st12 {ρ : Type} (n : Nat) (c : Int × Int × Int) (Ko : Exit → Fr → Option ρ) (s : (List (List Int)) × Int × Int) (nx : ((List (List Int)) × Int × Int) → Option ρ) : Option ρ :=
  Gm.triple_system_skolem_s12 n c.1 c.2.1 c.2.2 s.1 s.2.1 s.2.2 (fun a0 a1 a2 => nx (a0, a1, a2)) (fun (y0 : List (List Int)) (y1 : Int) => Ko (.exit 4) [(0, .bx [.ow 41 (.rows y0), .pv (.int .i64 y1)])])
noncomputable def tab (ρ : Type) (n : Nat) : Tab ρ := { live := [(0, [0, 1, 4]), (1, [0, 1, 4, 13, 14]), (2, [0, 1, 4, 13, 14, 15]), (3, [0, 1, 4, 5, 13, 14]), (4, [0, 1, 4, 5, 13, 14]), (5, [0, 1, 4, 5, 13, 14, 29]), (6, [0, 1, 4, 5, 13, 14, 29, 30]), (7, [0, 1, 4, 5, 6, 13, 14, 29]), (8, [0, 1, 4, 5, 13, 14, 29]), (9, [0, 1, 4, 5, 13, 14, 29]), (10, [0, 1, 4, 13, 14]), (11, [0, 1, 4, 54, 55]), (12, [0, 1, 4, 54, 55, 56]), (13, [0, 1, 4, 7, 54, 55]), (14, [0, 1, 4, 7, 8, 54, 55]), (15, [0, 1, 4, 7, 8, 54, 55, 62]), (16, [0, 1, 4, 7, 8, 54, 55]), (17, [0, 1, 4, 7, 8, 9, 54, 55]), (18, [0, 1, 4, 7, 8, 9, 54, 55, 72]), (19, [0, 1, 4, 7, 8, 9, 54, 55]), (20, [0, 1, 4, 7, 8, 9, 54, 55]), (21, [0, 1, 4, 7, 8, 9, 54, 55, 80]), (22, [0, 1, 4, 7, 8, 9, 54, 55, 80, 81]), (23, [0, 1, 4, 7, 8, 9, 10, 54, 55, 80]), (24, [0, 1, 4, 7, 8, 9, 54, 55, 80]), (25, [0, 1, 4, 7, 8, 9, 54, 55, 80]), (26, [0, 1, 4, 54, 55])], xl := [(0, [0, 1, 4]), (1, [0, 1, 4, 13, 14]), (2, [0, 1, 4, 13, 14]), (3, [0, 1, 4, 5, 13, 14, 29]), (4, [0]), (5, [0, 1, 4, 54, 55]), (6, [0, 1, 4, 54, 55]), (7, [0, 1, 4, 7, 8, 54, 55]), (8, [0, 1, 4, 7, 8, 54, 55]), (9, [0, 1, 4, 7, 8, 9, 54, 55, 80])], rl := [0], fz := [], jp := [], lp := [(6, fun A Ko => bnd (d6 A) fun p => iterM (st6 n p.1 Ko) n p.2), (2, fun A Ko => bnd (d2 A) fun p => iterM (st2 n p.1 Ko) n p.2), (22, fun A Ko => bnd (d22 A) fun p => iterM (st22 n p.1 Ko) n p.2), (15, fun A Ko => bnd (d15 A) fun p => iterM (st15 n p.1 Ko) n p.2), (12, fun A Ko => bnd (d12 A) fun p => iterM (st12 n p.1 Ko) n p.2)] }
noncomputable def b6 : Code := (cL (cB (c2 (c2 (c2 (cB (c1 (c2 (c2 (cL (cB (c2 (c1 (c2 body))))))))))))))
theorem d6_ok (A : Fr) (c : Int × Int × Int × Int × Int) (s : (List (List Int)) × Int × Int) (h : d6 A = some (c, s)) : A = F6 c s := by
  unfold d6 at h
  split at h
  · cases h; rfl
  · cases h
theorem step6 (ρ : Type) (n : Nat) (c : Int × Int × Int × Int × Int) (Ko : Exit → Fr → Option ρ) (s : (List (List Int)) × Int × Int) (nx : (Int × Int × Int × Int × Int) → ((List (List Int)) × Int × Int) → Option ρ) :
    AEO (env n) (answers ρ (used n) (used n)) (tab ρ n) b6 (F6 c s) (thenO (fun A => bnd (d6 (restr (keepOf (env n) b6) A)) fun p => nx p.1 p.2) Ko) = st6 n c Ko s (nx c) := by kernel_rfl
theorem lp6_ok {ρ : Type} (n : Nat) (hl : EntsOK Try.prog gl (used n)) : ∀ (A : Fr) (Ko : Exit → Fr → Option ρ) (r : ρ) (K : Exit → Fr → Prop), (bnd (d6 (restr (keepOf (env n) b6) A)) fun p => iterM (st6 n p.1 Ko) n p.2) = some r → (∀ e A, Ko e A = some r → K e A) → Gx.Sem Try.prog (env n) (.loop b6) A K :=
  fun A Ko r K h hk => loop_cod (P := Try.prog) (E := env n) (T := tab ρ n) (fun _ _ _ h => answers_ok h) F6 d6 (st6 n) d6_ok (show Cov _ (env n) (tab ρ n) b6 from ⟨trivial, ⟨⟨trivial, trivial⟩, ⟨⟨trivial, trivial⟩, trivial⟩⟩⟩) (fun c Ko s nx => step6 ρ n c Ko s nx) n A Ko r K h hk
noncomputable def b2 : Code := (cL (cB (c2 (c1 (c2 body)))))
theorem d2_ok (A : Fr) (c : Int × Int × Int) (s : (List (List Int)) × Int × Int) (h : d2 A = some (c, s)) : A = F2 c s := by
  unfold d2 at h
  split at h
  · cases h; rfl
  · cases h
theorem step2 (ρ : Type) (n : Nat) (c : Int × Int × Int) (Ko : Exit → Fr → Option ρ) (s : (List (List Int)) × Int × Int) (nx : (Int × Int × Int) → ((List (List Int)) × Int × Int) → Option ρ) :
    AEO (env n) (answers ρ (used n) (used n)) (tab ρ n) b2 (F2 c s) (thenO (fun A => bnd (d2 (restr (keepOf (env n) b2) A)) fun p => nx p.1 p.2) Ko) = st2 n c Ko s (nx c) := by kernel_rfl
theorem lp2_ok {ρ : Type} (n : Nat) (hl : EntsOK Try.prog gl (used n)) : ∀ (A : Fr) (Ko : Exit → Fr → Option ρ) (r : ρ) (K : Exit → Fr → Prop), (bnd (d2 (restr (keepOf (env n) b2) A)) fun p => iterM (st2 n p.1 Ko) n p.2) = some r → (∀ e A, Ko e A = some r → K e A) → Gx.Sem Try.prog (env n) (.loop b2) A K :=
  fun A Ko r K h hk => loop_cod (P := Try.prog) (E := env n) (T := tab ρ n) (fun _ _ _ h => answers_ok h) F2 d2 (st2 n) d2_ok (show Cov _ (env n) (tab ρ n) b2 from ⟨trivial, ⟨⟨trivial, trivial⟩, ⟨⟨trivial, ⟨trivial, ⟨trivial, lp6_ok n hl⟩⟩⟩, trivial⟩⟩⟩) (fun c Ko s nx => step2 ρ n c Ko s nx) n A Ko r K h hk
noncomputable def b22 : Code := (cL (cB (c2 (c2 (c2 (cB (c1 (c2 (cL (cB (c2 (c2 (cB (c1 (c2 (c2 (cL (cB (c2 (c2 (c2 body)))))))))))))))))))))
theorem d22_ok (A : Fr) (c : Int × Int × Int × Int × Int × Int × Int) (s : (List (List Int)) × Int × Int) (h : d22 A = some (c, s)) : A = F22 c s := by
  unfold d22 at h
  split at h
  · cases h; rfl
  · cases h
theorem step22 (ρ : Type) (n : Nat) (c : Int × Int × Int × Int × Int × Int × Int) (Ko : Exit → Fr → Option ρ) (s : (List (List Int)) × Int × Int) (nx : (Int × Int × Int × Int × Int × Int × Int) → ((List (List Int)) × Int × Int) → Option ρ) :
    AEO (env n) (answers ρ (used n) (used n)) (tab ρ n) b22 (F22 c s) (thenO (fun A => bnd (d22 (restr (keepOf (env n) b22) A)) fun p => nx p.1 p.2) Ko) = st22 n c Ko s (nx c) := by kernel_rfl
theorem lp22_ok {ρ : Type} (n : Nat) (hl : EntsOK Try.prog gl (used n)) : ∀ (A : Fr) (Ko : Exit → Fr → Option ρ) (r : ρ) (K : Exit → Fr → Prop), (bnd (d22 (restr (keepOf (env n) b22) A)) fun p => iterM (st22 n p.1 Ko) n p.2) = some r → (∀ e A, Ko e A = some r → K e A) → Gx.Sem Try.prog (env n) (.loop b22) A K :=
  fun A Ko r K h hk => loop_cod (P := Try.prog) (E := env n) (T := tab ρ n) (fun _ _ _ h => answers_ok h) F22 d22 (st22 n) d22_ok (show Cov _ (env n) (tab ρ n) b22 from ⟨trivial, ⟨⟨trivial, trivial⟩, ⟨⟨trivial, trivial⟩, trivial⟩⟩⟩) (fun c Ko s nx => step22 ρ n c Ko s nx) n A Ko r K h hk
noncomputable def b15 : Code := (cL (cB (c2 (c2 (cB (c1 (c2 (c2 (cL (cB (c2 (c2 (c2 body)))))))))))))
theorem d15_ok (A : Fr) (c : Int × Int × Int × Int × Int) (s : (List (List Int)) × Int × Int) (h : d15 A = some (c, s)) : A = F15 c s := by
  unfold d15 at h
  split at h
  · cases h; rfl
  · cases h
theorem step15 (ρ : Type) (n : Nat) (c : Int × Int × Int × Int × Int) (Ko : Exit → Fr → Option ρ) (s : (List (List Int)) × Int × Int) (nx : (Int × Int × Int × Int × Int) → ((List (List Int)) × Int × Int) → Option ρ) :
    AEO (env n) (answers ρ (used n) (used n)) (tab ρ n) b15 (F15 c s) (thenO (fun A => bnd (d15 (restr (keepOf (env n) b15) A)) fun p => nx p.1 p.2) Ko) = st15 n c Ko s (nx c) := by kernel_rfl
theorem lp15_ok {ρ : Type} (n : Nat) (hl : EntsOK Try.prog gl (used n)) : ∀ (A : Fr) (Ko : Exit → Fr → Option ρ) (r : ρ) (K : Exit → Fr → Prop), (bnd (d15 (restr (keepOf (env n) b15) A)) fun p => iterM (st15 n p.1 Ko) n p.2) = some r → (∀ e A, Ko e A = some r → K e A) → Gx.Sem Try.prog (env n) (.loop b15) A K :=
  fun A Ko r K h hk => loop_cod (P := Try.prog) (E := env n) (T := tab ρ n) (fun _ _ _ h => answers_ok h) F15 d15 (st15 n) d15_ok (show Cov _ (env n) (tab ρ n) b15 from ⟨⟨trivial, ⟨trivial, trivial⟩⟩, ⟨⟨trivial, ⟨⟨trivial, ⟨trivial, trivial⟩⟩, ⟨trivial, lp22_ok n hl⟩⟩⟩, trivial⟩⟩) (fun c Ko s nx => step15 ρ n c Ko s nx) n A Ko r K h hk
noncomputable def b12 : Code := (cL (cB (c2 (c2 (c2 body)))))
theorem d12_ok (A : Fr) (c : Int × Int × Int) (s : (List (List Int)) × Int × Int) (h : d12 A = some (c, s)) : A = F12 c s := by
  unfold d12 at h
  split at h
  · cases h; rfl
  · cases h
theorem step12 (ρ : Type) (n : Nat) (c : Int × Int × Int) (Ko : Exit → Fr → Option ρ) (s : (List (List Int)) × Int × Int) (nx : (Int × Int × Int) → ((List (List Int)) × Int × Int) → Option ρ) :
    AEO (env n) (answers ρ (used n) (used n)) (tab ρ n) b12 (F12 c s) (thenO (fun A => bnd (d12 (restr (keepOf (env n) b12) A)) fun p => nx p.1 p.2) Ko) = st12 n c Ko s (nx c) := by kernel_rfl
theorem lp12_ok {ρ : Type} (n : Nat) (hl : EntsOK Try.prog gl (used n)) : ∀ (A : Fr) (Ko : Exit → Fr → Option ρ) (r : ρ) (K : Exit → Fr → Prop), (bnd (d12 (restr (keepOf (env n) b12) A)) fun p => iterM (st12 n p.1 Ko) n p.2) = some r → (∀ e A, Ko e A = some r → K e A) → Gx.Sem Try.prog (env n) (.loop b12) A K :=
  fun A Ko r K h hk => loop_cod (P := Try.prog) (E := env n) (T := tab ρ n) (fun _ _ _ h => answers_ok h) F12 d12 (st12 n) d12_ok (show Cov _ (env n) (tab ρ n) b12 from ⟨trivial, ⟨⟨trivial, trivial⟩, ⟨⟨trivial, ⟨trivial, lp15_ok n hl⟩⟩, trivial⟩⟩⟩) (fun c Ko s nx => step12 ρ n c Ko s nx) n A Ko r K h hk
def enc (a : (List (List Int)) × Int × Int) : List AV := [.bx [.ow 41 (.rows a.1), .pv (.int .i64 a.2.1)], .pv (.int .i64 a.2.2)]
def dec : List AV → Option ((List (List Int)) × Int × Int)
  | [.bx [.ow 41 (.rows toArray0_0), .pv (.int .i64 toArray0_1)], .pv (.int .i64 t1)] => some (toArray0_0, toArray0_1, t1)
  | _ => none
def emb (b : (List (List Int)) × Int) : AV × List AV := (.tp [], [.bx [.ow 41 (.rows b.1), .pv (.int .i64 b.2)]])
def dr : AV → List AV → Option ((List (List Int)) × Int)
  | .tp [], [.bx [.ow 41 (.rows r0), .pv (.int .i64 r1)]] => some (r0, r1)
  | _, _ => none
theorem dec_ok (vs : List AV) (a : (List (List Int)) × Int × Int) (h : dec vs = some a) : vs = enc a := by
  unfold dec at h
  split at h
  · cases h; rfl
  · cases h
theorem dr_ok (v : AV) (o : List AV) (b : (List (List Int)) × Int) (h : dr v o = some b) : emb b = (v, o) := by
  unfold dr at h
  split at h
  · cases h; rfl
  · cases h
noncomputable def ent (n : Nat) : Ent := { f := 37, ms := [.io, .lend], α := (List (List Int)) × Int × Int, β := (List (List Int)) × Int, dec := dec, enc := enc, emb := emb, m := fun a => Gm.triple_system_skolem n a.1 a.2.1 a.2.2, hdec := dec_ok }
theorem run (n : Nat) (a : (List (List Int)) × Int × Int) : AEO (env n) (answers ((List (List Int)) × Int) (used n) (used n)) (tab ((List (List Int)) × Int) n) body (frameOf (enc a) 0) (bodyO (env n) Try.f37.results.toList (enc a) dr) = (ent n).m a := by kernel_rfl
theorem ok (n : Nat) (hl : EntsOK Try.prog gl (used n)) : EntOK Try.prog gl (ent n) :=
  fnO_sound (P := Try.prog) (e := ent n) (fn := Try.f37) (body := body) (l := used n) (te := te) (gl := gl) (n := ⟨4, 106⟩) (cut := []) (keep := keep) (T := tab ((List (List Int)) × Int) n) (dr := dr) Try.func37 (by kernel_rfl) (by kernel_rfl) te_ok (by kernel_rfl) (by kernel_rfl) hl (show Cov _ (env n) (tab ((List (List Int)) × Int) n) body from ⟨trivial, ⟨⟨trivial, lp2_ok n hl⟩, ⟨trivial, lp12_ok n hl⟩⟩⟩) dr_ok (fun a => ⟨rfl, rfl⟩) (run n)
theorem all_ok (n : Nat) : EntOK Try.prog gl (ent n) := ok n ⟨W_triple_lister_add.all_ok n, trivial⟩
end W_triple_system_skolem
namespace W_triple_Make
noncomputable def body : Code := Try.f15.body.getD .skip
def keep : List (Nat × List Nat) := []
noncomputable def used (n : Nat) : List Ent := [W_triple_system_bose.ent n, W_triple_system_design.ent n, W_triple_system_skolem.ent n]
noncomputable def env (n : Nat) : Env := envOf te gl (used n) ⟨2, 32⟩ [] keep
noncomputable def tab (ρ : Type) (_n : Nat) : Tab ρ := { live := [(0, [0, 2]), (1, [0, 2, 10]), (2, [2, 3]), (3, [0, 2, 4]), (4, [0, 2, 4, 16]), (5, [2, 3]), (6, [0, 2, 4, 16, 18]), (7, [2, 4]), (8, [0, 2, 4, 24]), (9, [2, 4]), (10, [2, 3])], xl := [(0, [2, 4])], rl := [2, 3], fz := [], jp := [], lp := [] }
def enc (a : Int) : List AV := [.pv (.int .i64 a)]
def dec : List AV → Option (Int)
  | [.pv (.int .i64 v0)] => some v0
  | _ => none
def emb (b : Int × (List (List Int)) × Int) : AV × List AV := (.tp [.ag [.pv (.int .i64 b.1), .sl (.rows b.2.1)], .pv (.int .i64 b.2.2)], [])
def dr : AV → List AV → Option (Int × (List (List Int)) × Int)
  | .tp [.ag [.pv (.int .i64 r0), .sl (.rows r1)], .pv (.int .i64 r2)], [] => some (r0, r1, r2)
  | _, _ => none
theorem dec_ok (vs : List AV) (a : Int) (h : dec vs = some a) : vs = enc a := by
  unfold dec at h
  split at h
  · cases h; rfl
  · cases h
theorem dr_ok (v : AV) (o : List AV) (b : Int × (List (List Int)) × Int) (h : dr v o = some b) : emb b = (v, o) := by
  unfold dr at h
  split at h
  · cases h; rfl
  · cases h
noncomputable def ent (n : Nat) : Ent := { f := 15, ms := [.lend], α := Int, β := Int × (List (List Int)) × Int, dec := dec, enc := enc, emb := emb, m := fun a => Gm.triple_Make n a, hdec := dec_ok }
theorem run (n : Nat) (a : Int) : AEO (env n) (answers (Int × (List (List Int)) × Int) (used n) (used n)) (tab (Int × (List (List Int)) × Int) n) body (frameOf (enc a) 0) (bodyO (env n) Try.f15.results.toList (enc a) dr) = (ent n).m a := by kernel_rfl
theorem ok (n : Nat) (hl : EntsOK Try.prog gl (used n)) : EntOK Try.prog gl (ent n) :=
  fnO_sound (P := Try.prog) (e := ent n) (fn := Try.f15) (body := body) (l := used n) (te := te) (gl := gl) (n := ⟨2, 32⟩) (cut := []) (keep := keep) (T := tab (Int × (List (List Int)) × Int) n) (dr := dr) Try.func15 (by kernel_rfl) (by kernel_rfl) te_ok (by kernel_rfl) (by kernel_rfl) hl (show Cov _ (env n) (tab (Int × (List (List Int)) × Int) n) body from ⟨trivial, ⟨⟨trivial, ⟨⟨trivial, trivial⟩, trivial⟩⟩, ⟨trivial, ⟨⟨trivial, ⟨trivial, ⟨trivial, ⟨trivial, ⟨trivial, ⟨trivial, trivial⟩⟩⟩⟩⟩⟩, ⟨trivial, trivial⟩⟩⟩⟩⟩) dr_ok (fun a => ⟨rfl, rfl⟩) (run n)
theorem all_ok (n : Nat) : EntOK Try.prog gl (ent n) := ok n ⟨W_triple_system_bose.all_ok n, W_triple_system_design.all_ok n, W_triple_system_skolem.all_ok n, trivial⟩
end W_triple_Make
namespace W_design_Check_1
noncomputable def body : Code := Try.f56.body.getD .skip
def keep : List (Nat × List Nat) := []
noncomputable def used (_n : Nat) : List Ent := []
noncomputable def env (n : Nat) : Env := envOf te gl (used n) ⟨3, 12⟩ [] keep
noncomputable def tab (ρ : Type) (_n : Nat) : Tab ρ := { live := [(0, [0, 1]), (1, [3])], xl := [], rl := [3], fz := [], jp := [], lp := [] }
def enc (a : Int × Int × (List (List Int))) : List AV := [.pv (.int .i64 a.1), .lb [.pv (.int .i64 a.2.1), .ls (.rows a.2.2)] 0]
def dec : List AV → Option (Int × Int × (List (List Int)))
  | [.pv (.int .i64 p0), .lb [.pv (.int .i64 t1_0), .ls (.rows t1_1)] 0] => some (p0, t1_0, t1_1)
  | _ => none
def emb (b : Bool) : AV × List AV := (.pv (.bool b), [])
def dr : AV → List AV → Option (Bool)
  | .pv (.bool r0), [] => some r0
  | _, _ => none
theorem dec_ok (vs : List AV) (a : Int × Int × (List (List Int))) (h : dec vs = some a) : vs = enc a := by
  unfold dec at h
  split at h
  · cases h; rfl
  · cases h
theorem dr_ok (v : AV) (o : List AV) (b : Bool) (h : dr v o = some b) : emb b = (v, o) := by
  unfold dr at h
  split at h
  · cases h; rfl
  · cases h
noncomputable def ent (n : Nat) : Ent := { f := 56, ms := [.lend], α := Int × Int × (List (List Int)), β := Bool, dec := dec, enc := enc, emb := emb, m := fun a => Gm.design_Check_1 n a.1 a.2.1 a.2.2, hdec := dec_ok }
theorem run (n : Nat) (a : Int × Int × (List (List Int))) : AEO (env n) (answers (Bool) (used n) (used n)) (tab (Bool) n) body (frameOf (enc a) 0) (bodyO (env n) Try.f56.results.toList (enc a) dr) = (ent n).m a := by kernel_rfl
theorem ok (n : Nat) (hl : EntsOK Try.prog gl (used n)) : EntOK Try.prog gl (ent n) :=
  fnO_sound (P := Try.prog) (e := ent n) (fn := Try.f56) (body := body) (l := used n) (te := te) (gl := gl) (n := ⟨3, 12⟩) (cut := []) (keep := keep) (T := tab (Bool) n) (dr := dr) Try.func56 (by kernel_rfl) (by kernel_rfl) te_ok (by kernel_rfl) (by kernel_rfl) hl (show Cov _ (env n) (tab (Bool) n) body from ⟨trivial, ⟨trivial, trivial⟩⟩) dr_ok (fun a => ⟨rfl, rfl⟩) (run n)
theorem all_ok (n : Nat) : EntOK Try.prog gl (ent n) := ok n trivial
end W_design_Check_1
namespace W_slices_IndexFunc_intint__design_Check_1
noncomputable def body : Code := Try.f48.body.getD .skip
def keep : List (Nat × List Nat) := [(2, [0, 1, 7, 8])]
noncomputable def used (n : Nat) : List Ent := [W_design_Check_1.ent n]
noncomputable def env (n : Nat) : Env := envOf te gl (used n) ⟨4, 19⟩ [] keep
def F2 (c : (List Int) × Int × (List (List Int)) × Int) (s : Int) : Fr := [(0, .ls (.ints .i64 c.1)), (1, .fn 56 [.lb [.pv (.int .i64 c.2.1), .ls (.rows c.2.2.1)] 0]), (7, .pv (.int .i64 c.2.2.2)), (8, .pv (.int .i64 s))]
def d2 : Fr → Option (((List Int) × Int × (List (List Int)) × Int) × (Int))
  | [(0, .ls (.ints .i64 s_0)), (1, .fn 56 [.lb [.pv (.int .i64 f1_0), .ls (.rows f1_1)] 0]), (7, .pv (.int .i64 t7)), (8, .pv (.int .i64 t8))] => some ((s_0, f1_0, f1_1, t7), t8)
  | _ => none
def st2 {ρ : Type} (n : Nat) (c : (List Int) × Int × (List (List Int)) × Int) (Ko : Exit → Fr → Option ρ) (s : Int) (nx : Int → Option ρ) : Option ρ :=
  Gm.slices_IndexFunc_intint__design_Check_1_s2 n c.1 c.2.1 c.2.2.1 c.2.2.2 s nx (fun (y0 : Int) => Ko .ret [(4, .pv (.int .i64 y0))]) (Ko (.exit 0) [])
noncomputable def tab (ρ : Type) (n : Nat) : Tab ρ := { live := [(0, [0, 1]), (1, [0, 1, 7, 8]), (2, [0, 1, 7, 8, 9]), (3, [0, 1, 5, 7, 8]), (4, [0, 1, 5, 7, 8, 16]), (5, [4]), (6, [0, 1, 7, 8]), (7, [4])], xl := [(0, []), (1, [0, 1, 7, 8])], rl := [4], fz := [], jp := [], lp := [(2, fun A Ko => bnd (d2 A) fun p => iterM (st2 n p.1 Ko) n p.2)] }
noncomputable def b2 : Code := (cL (cB (c2 (c1 (c2 body)))))
theorem d2_ok (A : Fr) (c : (List Int) × Int × (List (List Int)) × Int) (s : Int) (h : d2 A = some (c, s)) : A = F2 c s := by
  unfold d2 at h
  split at h
  · cases h; rfl
  · cases h
theorem step2 (ρ : Type) (n : Nat) (c : (List Int) × Int × (List (List Int)) × Int) (Ko : Exit → Fr → Option ρ) (s : Int) (nx : ((List Int) × Int × (List (List Int)) × Int) → (Int) → Option ρ) :
    AEO (env n) (answers ρ (used n) (used n)) (tab ρ n) b2 (F2 c s) (thenO (fun A => bnd (d2 (restr (keepOf (env n) b2) A)) fun p => nx p.1 p.2) Ko) = st2 n c Ko s (nx c) := by kernel_rfl
theorem lp2_ok {ρ : Type} (n : Nat) (hl : EntsOK Try.prog gl (used n)) : ∀ (A : Fr) (Ko : Exit → Fr → Option ρ) (r : ρ) (K : Exit → Fr → Prop), (bnd (d2 (restr (keepOf (env n) b2) A)) fun p => iterM (st2 n p.1 Ko) n p.2) = some r → (∀ e A, Ko e A = some r → K e A) → Gx.Sem Try.prog (env n) (.loop b2) A K :=
  fun A Ko r K h hk => loop_cod (P := Try.prog) (E := env n) (T := tab ρ n) (fun _ _ _ h => answers_ok h) F2 d2 (st2 n) d2_ok (show Cov _ (env n) (tab ρ n) b2 from ⟨trivial, ⟨⟨trivial, trivial⟩, ⟨⟨trivial, ⟨trivial, ⟨⟨trivial, trivial⟩, trivial⟩⟩⟩, trivial⟩⟩⟩) (fun c Ko s nx => step2 ρ n c Ko s nx) n A Ko r K h hk
def enc (a : (List Int) × Int × (List (List Int))) : List AV := [.ls (.ints .i64 a.1), .fn 56 [.lb [.pv (.int .i64 a.2.1), .ls (.rows a.2.2)] 0]]
def dec : List AV → Option ((List Int) × Int × (List (List Int)))
  | [.ls (.ints .i64 s_0), .fn 56 [.lb [.pv (.int .i64 f1_0), .ls (.rows f1_1)] 0]] => some (s_0, f1_0, f1_1)
  | _ => none
def emb (b : Int) : AV × List AV := (.pv (.int .i64 b), [])
def dr : AV → List AV → Option (Int)
  | .pv (.int .i64 r0), [] => some r0
  | _, _ => none
theorem dec_ok (vs : List AV) (a : (List Int) × Int × (List (List Int))) (h : dec vs = some a) : vs = enc a := by
  unfold dec at h
  split at h
  · cases h; rfl
  · cases h
theorem dr_ok (v : AV) (o : List AV) (b : Int) (h : dr v o = some b) : emb b = (v, o) := by
  unfold dr at h
  split at h
  · cases h; rfl
  · cases h
noncomputable def ent (n : Nat) : Ent := { f := 48, ms := [.lend, .lend], α := (List Int) × Int × (List (List Int)), β := Int, dec := dec, enc := enc, emb := emb, m := fun a => Gm.slices_IndexFunc_intint__design_Check_1 n a.1 a.2.1 a.2.2, hdec := dec_ok }
theorem run (n : Nat) (a : (List Int) × Int × (List (List Int))) : AEO (env n) (answers (Int) (used n) (used n)) (tab (Int) n) body (frameOf (enc a) 0) (bodyO (env n) Try.f48.results.toList (enc a) dr) = (ent n).m a := by kernel_rfl
theorem ok (n : Nat) (hl : EntsOK Try.prog gl (used n)) : EntOK Try.prog gl (ent n) :=
  fnO_sound (P := Try.prog) (e := ent n) (fn := Try.f48) (body := body) (l := used n) (te := te) (gl := gl) (n := ⟨4, 19⟩) (cut := []) (keep := keep) (T := tab (Int) n) (dr := dr) Try.func48 (by kernel_rfl) (by kernel_rfl) te_ok (by kernel_rfl) (by kernel_rfl) hl (show Cov _ (env n) (tab (Int) n) body from ⟨trivial, ⟨⟨trivial, lp2_ok n hl⟩, ⟨trivial, trivial⟩⟩⟩) dr_ok (fun a => ⟨rfl, rfl⟩) (run n)
theorem all_ok (n : Nat) : EntOK Try.prog gl (ent n) := ok n ⟨W_design_Check_1.all_ok n, trivial⟩
end W_slices_IndexFunc_intint__design_Check_1
namespace W_slices_ContainsFunc_intint__design_Check_1
noncomputable def body : Code := Try.f27.body.getD .skip
def keep : List (Nat × List Nat) := []
noncomputable def used (n : Nat) : List Ent := [W_slices_IndexFunc_intint__design_Check_1.ent n]
noncomputable def env (n : Nat) : Env := envOf te gl (used n) ⟨4, 9⟩ [] keep
noncomputable def tab (ρ : Type) (_n : Nat) : Tab ρ := { live := [(0, [0, 1]), (1, [4])], xl := [], rl := [4], fz := [], jp := [], lp := [] }
def enc (a : (List Int) × Int × (List (List Int))) : List AV := [.ls (.ints .i64 a.1), .fn 56 [.lb [.pv (.int .i64 a.2.1), .ls (.rows a.2.2)] 0]]
def dec : List AV → Option ((List Int) × Int × (List (List Int)))
  | [.ls (.ints .i64 s_0), .fn 56 [.lb [.pv (.int .i64 f1_0), .ls (.rows f1_1)] 0]] => some (s_0, f1_0, f1_1)
  | _ => none
def emb (b : Bool) : AV × List AV := (.pv (.bool b), [])
def dr : AV → List AV → Option (Bool)
  | .pv (.bool r0), [] => some r0
  | _, _ => none
theorem dec_ok (vs : List AV) (a : (List Int) × Int × (List (List Int))) (h : dec vs = some a) : vs = enc a := by
  unfold dec at h
  split at h
  · cases h; rfl
  · cases h
theorem dr_ok (v : AV) (o : List AV) (b : Bool) (h : dr v o = some b) : emb b = (v, o) := by
  unfold dr at h
  split at h
  · cases h; rfl
  · cases h
noncomputable def ent (n : Nat) : Ent := { f := 27, ms := [.lend, .lend], α := (List Int) × Int × (List (List Int)), β := Bool, dec := dec, enc := enc, emb := emb, m := fun a => Gm.slices_ContainsFunc_intint__design_Check_1 n a.1 a.2.1 a.2.2, hdec := dec_ok }
theorem run (n : Nat) (a : (List Int) × Int × (List (List Int))) : AEO (env n) (answers (Bool) (used n) (used n)) (tab (Bool) n) body (frameOf (enc a) 0) (bodyO (env n) Try.f27.results.toList (enc a) dr) = (ent n).m a := by kernel_rfl
theorem ok (n : Nat) (hl : EntsOK Try.prog gl (used n)) : EntOK Try.prog gl (ent n) :=
  fnO_sound (P := Try.prog) (e := ent n) (fn := Try.f27) (body := body) (l := used n) (te := te) (gl := gl) (n := ⟨4, 9⟩) (cut := []) (keep := keep) (T := tab (Bool) n) (dr := dr) Try.func27 (by kernel_rfl) (by kernel_rfl) te_ok (by kernel_rfl) (by kernel_rfl) hl (show Cov _ (env n) (tab (Bool) n) body from ⟨trivial, ⟨trivial, trivial⟩⟩) dr_ok (fun a => ⟨rfl, rfl⟩) (run n)
theorem all_ok (n : Nat) : EntOK Try.prog gl (ent n) := ok n ⟨W_slices_IndexFunc_intint__design_Check_1.all_ok n, trivial⟩
end W_slices_ContainsFunc_intint__design_Check_1
namespace W_design_Check
noncomputable def body : Code := Try.f38.body.getD .skip
def keep : List (Nat × List Nat) := [(6, [1, 21, 22, 23]), (11, [1, 4, 5, 21, 22, 23])]
noncomputable def used (n : Nat) : List Ent := [W_slices_ContainsFunc_intint__design_Check_1.ent n]
noncomputable def env (n : Nat) : Env := envOf te gl (used n) ⟨1, 47⟩ [] keep
def F11 (c : Int × (List (List Int)) × (List Int) × (List (List Int)) × Int × Int) (s : Int) : Fr := [(1, .bx [.pv (.int .i64 c.1), .ls (.rows c.2.1)]), (4, .sl (.ints .i64 c.2.2.1)), (5, .pv (.int .i64 s)), (21, .ls (.rows c.2.2.2.1)), (22, .pv (.int .i64 c.2.2.2.2.1)), (23, .pv (.int .i64 c.2.2.2.2.2))]
def d11 : Fr → Option ((Int × (List (List Int)) × (List Int) × (List (List Int)) × Int × Int) × (Int))
  | [(1, .bx [.pv (.int .i64 d1_0), .ls (.rows d1_1)]), (4, .sl (.ints .i64 b4)), (5, .pv (.int .i64 i5)), (21, .ls (.rows t21)), (22, .pv (.int .i64 t22)), (23, .pv (.int .i64 t23))] => some ((d1_0, d1_1, b4, t21, t22, t23), i5)
  | _ => none
def st11 {ρ : Type} (n : Nat) (c : Int × (List (List Int)) × (List Int) × (List (List Int)) × Int × Int) (Ko : Exit → Fr → Option ρ) (s : Int) (nx : Int → Option ρ) : Option ρ :=
  Gm.design_Check_s11 n c.1 c.2.1 c.2.2.1 c.2.2.2.1 c.2.2.2.2.1 c.2.2.2.2.2 s nx (Ko .ret [(2, .pv (.int .i64 2))]) (Ko (.exit 3) [(1, .bx [.pv (.int .i64 c.1), .ls (.rows c.2.1)]), (21, .ls (.rows c.2.2.2.1)), (22, .pv (.int .i64 c.2.2.2.2.1)), (23, .pv (.int .i64 c.2.2.2.2.2))])
def F6 (c : Int × (List (List Int)) × (List (List Int)) × Int) (s : Int) : Fr := [(1, .bx [.pv (.int .i64 c.1), .ls (.rows c.2.1)]), (21, .ls (.rows c.2.2.1)), (22, .pv (.int .i64 c.2.2.2)), (23, .pv (.int .i64 s))]
def d6 : Fr → Option ((Int × (List (List Int)) × (List (List Int)) × Int) × (Int))
  | [(1, .bx [.pv (.int .i64 d1_0), .ls (.rows d1_1)]), (21, .ls (.rows t21)), (22, .pv (.int .i64 t22)), (23, .pv (.int .i64 t23))] => some ((d1_0, d1_1, t21, t22), t23)
  | _ => none
def st6 {ρ : Type} (n : Nat) (c : Int × (List (List Int)) × (List (List Int)) × Int) (Ko : Exit → Fr → Option ρ) (s : Int) (nx : Int → Option ρ) : Option ρ :=
  Gm.design_Check_s6 n c.1 c.2.1 c.2.2.1 c.2.2.2 s nx (Ko .ret [(2, .pv (.int .i64 1))]) (Ko .ret [(2, .pv (.int .i64 2))]) (Ko (.exit 1) [])
noncomputable def tab (ρ : Type) (n : Nat) : Tab ρ := { live := [(0, [1]), (1, [1, 6]), (2, [2]), (3, [1, 15]), (4, [2]), (5, [1, 21, 22, 23]), (6, [1, 21, 22, 23, 24]), (7, [1, 4, 21, 22, 23]), (8, [1, 4, 21, 22, 23, 29]), (9, [2]), (10, [1, 4, 5, 21, 22, 23]), (11, [1, 4, 5, 21, 22, 23, 33]), (12, [1, 4, 5, 21, 22, 23]), (13, [1, 4, 5, 21, 22, 23, 45]), (14, [2]), (15, [1, 21, 22, 23]), (16, [2])], xl := [(0, [1]), (1, []), (2, [1, 21, 22, 23]), (3, [1, 21, 22, 23]), (4, [1, 4, 5, 21, 22, 23])], rl := [2], fz := [], jp := [], lp := [(11, fun A Ko => bnd (d11 A) fun p => iterM (st11 n p.1 Ko) n p.2), (6, fun A Ko => bnd (d6 A) fun p => iterM (st6 n p.1 Ko) n p.2)] }
noncomputable def b11 : Code := (cL (cB (c2 (c2 (c2 (cB (c1 (c2 (c2 (cL (cB (c2 (c1 (c2 (c2 body)))))))))))))))
theorem d11_ok (A : Fr) (c : Int × (List (List Int)) × (List Int) × (List (List Int)) × Int × Int) (s : Int) (h : d11 A = some (c, s)) : A = F11 c s := by
  unfold d11 at h
  split at h
  · cases h; rfl
  · cases h
theorem step11 (ρ : Type) (n : Nat) (c : Int × (List (List Int)) × (List Int) × (List (List Int)) × Int × Int) (Ko : Exit → Fr → Option ρ) (s : Int) (nx : (Int × (List (List Int)) × (List Int) × (List (List Int)) × Int × Int) → (Int) → Option ρ) :
    AEO (env n) (answers ρ (used n) (used n)) (tab ρ n) b11 (F11 c s) (thenO (fun A => bnd (d11 (restr (keepOf (env n) b11) A)) fun p => nx p.1 p.2) Ko) = st11 n c Ko s (nx c) := by kernel_rfl
theorem lp11_ok {ρ : Type} (n : Nat) (hl : EntsOK Try.prog gl (used n)) : ∀ (A : Fr) (Ko : Exit → Fr → Option ρ) (r : ρ) (K : Exit → Fr → Prop), (bnd (d11 (restr (keepOf (env n) b11) A)) fun p => iterM (st11 n p.1 Ko) n p.2) = some r → (∀ e A, Ko e A = some r → K e A) → Gx.Sem Try.prog (env n) (.loop b11) A K :=
  fun A Ko r K h hk => loop_cod (P := Try.prog) (E := env n) (T := tab ρ n) (fun _ _ _ h => answers_ok h) F11 d11 (st11 n) d11_ok (show Cov _ (env n) (tab ρ n) b11 from ⟨⟨trivial, ⟨trivial, trivial⟩⟩, ⟨⟨trivial, ⟨⟨trivial, trivial⟩, trivial⟩⟩, trivial⟩⟩) (fun c Ko s nx => step11 ρ n c Ko s nx) n A Ko r K h hk
noncomputable def b6 : Code := (cL (cB (c2 (c1 (c2 (c2 body))))))
theorem d6_ok (A : Fr) (c : Int × (List (List Int)) × (List (List Int)) × Int) (s : Int) (h : d6 A = some (c, s)) : A = F6 c s := by
  unfold d6 at h
  split at h
  · cases h; rfl
  · cases h
theorem step6 (ρ : Type) (n : Nat) (c : Int × (List (List Int)) × (List (List Int)) × Int) (Ko : Exit → Fr → Option ρ) (s : Int) (nx : (Int × (List (List Int)) × (List (List Int)) × Int) → (Int) → Option ρ) :
    AEO (env n) (answers ρ (used n) (used n)) (tab ρ n) b6 (F6 c s) (thenO (fun A => bnd (d6 (restr (keepOf (env n) b6) A)) fun p => nx p.1 p.2) Ko) = st6 n c Ko s (nx c) := by kernel_rfl
theorem lp6_ok {ρ : Type} (n : Nat) (hl : EntsOK Try.prog gl (used n)) : ∀ (A : Fr) (Ko : Exit → Fr → Option ρ) (r : ρ) (K : Exit → Fr → Prop), (bnd (d6 (restr (keepOf (env n) b6) A)) fun p => iterM (st6 n p.1 Ko) n p.2) = some r → (∀ e A, Ko e A = some r → K e A) → Gx.Sem Try.prog (env n) (.loop b6) A K :=
  fun A Ko r K h hk => loop_cod (P := Try.prog) (E := env n) (T := tab ρ n) (fun _ _ _ h => answers_ok h) F6 d6 (st6 n) d6_ok (show Cov _ (env n) (tab ρ n) b6 from ⟨trivial, ⟨⟨trivial, trivial⟩, ⟨⟨trivial, ⟨⟨trivial, ⟨⟨trivial, trivial⟩, trivial⟩⟩, ⟨trivial, lp11_ok n hl⟩⟩⟩, trivial⟩⟩⟩) (fun c Ko s nx => step6 ρ n c Ko s nx) n A Ko r K h hk
def enc (a : Int × (List (List Int))) : List AV := [.ag [.pv (.int .i64 a.1), .ls (.rows a.2)]]
def dec : List AV → Option (Int × (List (List Int)))
  | [.ag [.pv (.int .i64 d0_0), .ls (.rows d0_1)]] => some (d0_0, d0_1)
  | _ => none
def emb (b : Int) : AV × List AV := (.pv (.int .i64 b), [])
def dr : AV → List AV → Option (Int)
  | .pv (.int .i64 r0), [] => some r0
  | _, _ => none
theorem dec_ok (vs : List AV) (a : Int × (List (List Int))) (h : dec vs = some a) : vs = enc a := by
  unfold dec at h
  split at h
  · cases h; rfl
  · cases h
theorem dr_ok (v : AV) (o : List AV) (b : Int) (h : dr v o = some b) : emb b = (v, o) := by
  unfold dr at h
  split at h
  · cases h; rfl
  · cases h
noncomputable def ent (n : Nat) : Ent := { f := 38, ms := [.lend], α := Int × (List (List Int)), β := Int, dec := dec, enc := enc, emb := emb, m := fun a => Gm.design_Check n a.1 a.2, hdec := dec_ok }
theorem run (n : Nat) (a : Int × (List (List Int))) : AEO (env n) (answers (Int) (used n) (used n)) (tab (Int) n) body (frameOf (enc a) 0) (bodyO (env n) Try.f38.results.toList (enc a) dr) = (ent n).m a := by kernel_rfl
theorem ok (n : Nat) (hl : EntsOK Try.prog gl (used n)) : EntOK Try.prog gl (ent n) :=
  fnO_sound (P := Try.prog) (e := ent n) (fn := Try.f38) (body := body) (l := used n) (te := te) (gl := gl) (n := ⟨1, 47⟩) (cut := []) (keep := keep) (T := tab (Int) n) (dr := dr) Try.func38 (by kernel_rfl) (by kernel_rfl) te_ok (by kernel_rfl) (by kernel_rfl) hl (show Cov _ (env n) (tab (Int) n) body from ⟨trivial, ⟨⟨trivial, ⟨⟨trivial, trivial⟩, ⟨trivial, ⟨⟨trivial, trivial⟩, trivial⟩⟩⟩⟩, ⟨⟨trivial, lp6_ok n hl⟩, ⟨trivial, trivial⟩⟩⟩⟩) dr_ok (fun a => ⟨rfl, rfl⟩) (run n)
theorem all_ok (n : Nat) : EntOK Try.prog gl (ent n) := ok n ⟨W_slices_ContainsFunc_intint__design_Check_1.all_ok n, trivial⟩
end W_design_Check
namespace W_triple_open_1
noncomputable def body : Code := Try.f46.body.getD .skip
def keep : List (Nat × List Nat) := []
noncomputable def used (_n : Nat) : List Ent := []
noncomputable def env (n : Nat) : Env := envOf te gl (used n) ⟨2, 6⟩ [] keep
noncomputable def tab (ρ : Type) (_n : Nat) : Tab ρ := { live := [(0, [0]), (1, [2])], xl := [], rl := [2], fz := [], jp := [], lp := [] }
def enc (a : List Int) : List AV := [.ls (.ints .i64 a)]
def dec : List AV → Option (List Int)
  | [.ls (.ints .i64 b0)] => some b0
  | _ => none
def emb (b : Bool) : AV × List AV := (.pv (.bool b), [])
def dr : AV → List AV → Option (Bool)
  | .pv (.bool r0), [] => some r0
  | _, _ => none
theorem dec_ok (vs : List AV) (a : List Int) (h : dec vs = some a) : vs = enc a := by
  unfold dec at h
  split at h
  · cases h; rfl
  · cases h
theorem dr_ok (v : AV) (o : List AV) (b : Bool) (h : dr v o = some b) : emb b = (v, o) := by
  unfold dr at h
  split at h
  · cases h; rfl
  · cases h
noncomputable def ent (n : Nat) : Ent := { f := 46, ms := [.lend], α := List Int, β := Bool, dec := dec, enc := enc, emb := emb, m := fun a => Gm.triple_open_1 n a, hdec := dec_ok }
theorem run (n : Nat) (a : List Int) : AEO (env n) (answers (Bool) (used n) (used n)) (tab (Bool) n) body (frameOf (enc a) 0) (bodyO (env n) Try.f46.results.toList (enc a) dr) = (ent n).m a := by kernel_rfl
theorem ok (n : Nat) (hl : EntsOK Try.prog gl (used n)) : EntOK Try.prog gl (ent n) :=
  fnO_sound (P := Try.prog) (e := ent n) (fn := Try.f46) (body := body) (l := used n) (te := te) (gl := gl) (n := ⟨2, 6⟩) (cut := []) (keep := keep) (T := tab (Bool) n) (dr := dr) Try.func46 (by kernel_rfl) (by kernel_rfl) te_ok (by kernel_rfl) (by kernel_rfl) hl (show Cov _ (env n) (tab (Bool) n) body from ⟨trivial, ⟨trivial, trivial⟩⟩) dr_ok (fun a => ⟨rfl, rfl⟩) (run n)
theorem all_ok (n : Nat) : EntOK Try.prog gl (ent n) := ok n trivial
end W_triple_open_1
namespace W_slices_IndexFunc_intint__triple_open_1
noncomputable def body : Code := Try.f57.body.getD .skip
def keep : List (Nat × List Nat) := [(2, [0, 1, 7, 8])]
noncomputable def used (n : Nat) : List Ent := [W_triple_open_1.ent n]
noncomputable def env (n : Nat) : Env := envOf te gl (used n) ⟨4, 19⟩ [] keep
def F2 (c : (List (List Int)) × Int) (s : Int) : Fr := [(0, .ls (.rows c.1)), (1, .fn 46 []), (7, .pv (.int .i64 c.2)), (8, .pv (.int .i64 s))]
def d2 : Fr → Option (((List (List Int)) × Int) × (Int))
  | [(0, .ls (.rows s_0)), (1, .fn 46 []), (7, .pv (.int .i64 t7)), (8, .pv (.int .i64 t8))] => some ((s_0, t7), t8)
  | _ => none
def st2 {ρ : Type} (n : Nat) (c : (List (List Int)) × Int) (Ko : Exit → Fr → Option ρ) (s : Int) (nx : Int → Option ρ) : Option ρ :=
  Gm.slices_IndexFunc_intint__triple_open_1_s2 n c.1 c.2 s nx (fun (y0 : Int) => Ko .ret [(4, .pv (.int .i64 y0))]) (Ko (.exit 0) [])
noncomputable def tab (ρ : Type) (n : Nat) : Tab ρ := { live := [(0, [0, 1]), (1, [0, 1, 7, 8]), (2, [0, 1, 7, 8, 9]), (3, [0, 1, 5, 7, 8]), (4, [0, 1, 5, 7, 8, 16]), (5, [4]), (6, [0, 1, 7, 8]), (7, [4])], xl := [(0, []), (1, [0, 1, 7, 8])], rl := [4], fz := [], jp := [], lp := [(2, fun A Ko => bnd (d2 A) fun p => iterM (st2 n p.1 Ko) n p.2)] }
noncomputable def b2 : Code := (cL (cB (c2 (c1 (c2 body)))))
theorem d2_ok (A : Fr) (c : (List (List Int)) × Int) (s : Int) (h : d2 A = some (c, s)) : A = F2 c s := by
  unfold d2 at h
  split at h
  · cases h; rfl
  · cases h
theorem step2 (ρ : Type) (n : Nat) (c : (List (List Int)) × Int) (Ko : Exit → Fr → Option ρ) (s : Int) (nx : ((List (List Int)) × Int) → (Int) → Option ρ) :
    AEO (env n) (answers ρ (used n) (used n)) (tab ρ n) b2 (F2 c s) (thenO (fun A => bnd (d2 (restr (keepOf (env n) b2) A)) fun p => nx p.1 p.2) Ko) = st2 n c Ko s (nx c) := by kernel_rfl
theorem lp2_ok {ρ : Type} (n : Nat) (hl : EntsOK Try.prog gl (used n)) : ∀ (A : Fr) (Ko : Exit → Fr → Option ρ) (r : ρ) (K : Exit → Fr → Prop), (bnd (d2 (restr (keepOf (env n) b2) A)) fun p => iterM (st2 n p.1 Ko) n p.2) = some r → (∀ e A, Ko e A = some r → K e A) → Gx.Sem Try.prog (env n) (.loop b2) A K :=
  fun A Ko r K h hk => loop_cod (P := Try.prog) (E := env n) (T := tab ρ n) (fun _ _ _ h => answers_ok h) F2 d2 (st2 n) d2_ok (show Cov _ (env n) (tab ρ n) b2 from ⟨trivial, ⟨⟨trivial, trivial⟩, ⟨⟨trivial, ⟨trivial, ⟨⟨trivial, trivial⟩, trivial⟩⟩⟩, trivial⟩⟩⟩) (fun c Ko s nx => step2 ρ n c Ko s nx) n A Ko r K h hk
def enc (a : List (List Int)) : List AV := [.ls (.rows a), .fn 46 []]
def dec : List AV → Option (List (List Int))
  | [.ls (.rows s_0), .fn 46 []] => some s_0
  | _ => none
def emb (b : Int) : AV × List AV := (.pv (.int .i64 b), [])
def dr : AV → List AV → Option (Int)
  | .pv (.int .i64 r0), [] => some r0
  | _, _ => none
theorem dec_ok (vs : List AV) (a : List (List Int)) (h : dec vs = some a) : vs = enc a := by
  unfold dec at h
  split at h
  · cases h; rfl
  · cases h
theorem dr_ok (v : AV) (o : List AV) (b : Int) (h : dr v o = some b) : emb b = (v, o) := by
  unfold dr at h
  split at h
  · cases h; rfl
  · cases h
noncomputable def ent (n : Nat) : Ent := { f := 57, ms := [.lend, .lend], α := List (List Int), β := Int, dec := dec, enc := enc, emb := emb, m := fun a => Gm.slices_IndexFunc_intint__triple_open_1 n a, hdec := dec_ok }
theorem run (n : Nat) (a : List (List Int)) : AEO (env n) (answers (Int) (used n) (used n)) (tab (Int) n) body (frameOf (enc a) 0) (bodyO (env n) Try.f57.results.toList (enc a) dr) = (ent n).m a := by kernel_rfl
theorem ok (n : Nat) (hl : EntsOK Try.prog gl (used n)) : EntOK Try.prog gl (ent n) :=
  fnO_sound (P := Try.prog) (e := ent n) (fn := Try.f57) (body := body) (l := used n) (te := te) (gl := gl) (n := ⟨4, 19⟩) (cut := []) (keep := keep) (T := tab (Int) n) (dr := dr) Try.func57 (by kernel_rfl) (by kernel_rfl) te_ok (by kernel_rfl) (by kernel_rfl) hl (show Cov _ (env n) (tab (Int) n) body from ⟨trivial, ⟨⟨trivial, lp2_ok n hl⟩, ⟨trivial, trivial⟩⟩⟩) dr_ok (fun a => ⟨rfl, rfl⟩) (run n)
theorem all_ok (n : Nat) : EntOK Try.prog gl (ent n) := ok n ⟨W_triple_open_1.all_ok n, trivial⟩
end W_slices_IndexFunc_intint__triple_open_1
namespace W_slices_ContainsFunc_intint__triple_open_1
noncomputable def body : Code := Try.f39.body.getD .skip
def keep : List (Nat × List Nat) := []
noncomputable def used (n : Nat) : List Ent := [W_slices_IndexFunc_intint__triple_open_1.ent n]
noncomputable def env (n : Nat) : Env := envOf te gl (used n) ⟨4, 9⟩ [] keep
noncomputable def tab (ρ : Type) (_n : Nat) : Tab ρ := { live := [(0, [0, 1]), (1, [4])], xl := [], rl := [4], fz := [], jp := [], lp := [] }
def enc (a : List (List Int)) : List AV := [.ls (.rows a), .fn 46 []]
def dec : List AV → Option (List (List Int))
  | [.ls (.rows s_0), .fn 46 []] => some s_0
  | _ => none
def emb (b : Bool) : AV × List AV := (.pv (.bool b), [])
def dr : AV → List AV → Option (Bool)
  | .pv (.bool r0), [] => some r0
  | _, _ => none
theorem dec_ok (vs : List AV) (a : List (List Int)) (h : dec vs = some a) : vs = enc a := by
  unfold dec at h
  split at h
  · cases h; rfl
  · cases h
theorem dr_ok (v : AV) (o : List AV) (b : Bool) (h : dr v o = some b) : emb b = (v, o) := by
  unfold dr at h
  split at h
  · cases h; rfl
  · cases h
noncomputable def ent (n : Nat) : Ent := { f := 39, ms := [.lend, .lend], α := List (List Int), β := Bool, dec := dec, enc := enc, emb := emb, m := fun a => Gm.slices_ContainsFunc_intint__triple_open_1 n a, hdec := dec_ok }
theorem run (n : Nat) (a : List (List Int)) : AEO (env n) (answers (Bool) (used n) (used n)) (tab (Bool) n) body (frameOf (enc a) 0) (bodyO (env n) Try.f39.results.toList (enc a) dr) = (ent n).m a := by kernel_rfl
theorem ok (n : Nat) (hl : EntsOK Try.prog gl (used n)) : EntOK Try.prog gl (ent n) :=
  fnO_sound (P := Try.prog) (e := ent n) (fn := Try.f39) (body := body) (l := used n) (te := te) (gl := gl) (n := ⟨4, 9⟩) (cut := []) (keep := keep) (T := tab (Bool) n) (dr := dr) Try.func39 (by kernel_rfl) (by kernel_rfl) te_ok (by kernel_rfl) (by kernel_rfl) hl (show Cov _ (env n) (tab (Bool) n) body from ⟨trivial, ⟨trivial, trivial⟩⟩) dr_ok (fun a => ⟨rfl, rfl⟩) (run n)
theorem all_ok (n : Nat) : EntOK Try.prog gl (ent n) := ok n ⟨W_slices_IndexFunc_intint__triple_open_1.all_ok n, trivial⟩
end W_slices_ContainsFunc_intint__triple_open_1
namespace W_triple_third
noncomputable def body : Code := Try.f30.body.getD .skip
def keep : List (Nat × List Nat) := [(3, [0, 2, 4, 13]), (6, [0, 2, 4, 5, 13, 16]), (12, [2, 4, 25, 26, 27]), (15, [2, 4, 8, 25, 26, 27, 31, 32, 33])]
noncomputable def used (_n : Nat) : List Ent := []
noncomputable def env (n : Nat) : Env := envOf te gl (used n) ⟨2, 70⟩ [] keep
def F6 (c : (List (List Int)) × (List Int) × Int × Int) (s : (List Int) × Int) : Fr := [(0, .ls (.rows c.1)), (2, .ba (.ints .i64 c.2.1)), (4, .ba (.ints .i64 s.1)), (5, .pv (.int .i64 c.2.2.1)), (13, .pv (.int .i64 c.2.2.2)), (16, .pv (.int .i64 s.2))]
def d6 : Fr → Option (((List (List Int)) × (List Int) × Int × Int) × ((List Int) × Int))
  | [(0, .ls (.rows toArray0)), (2, .ba (.ints .i64 t2)), (4, .ba (.ints .i64 t4)), (5, .pv (.int .i64 t5)), (13, .pv (.int .i64 t13)), (16, .pv (.int .i64 t16))] => some ((toArray0, t2, t5, t13), (t4, t16))
  | _ => none
def st6 {ρ : Type} (n : Nat) (c : (List (List Int)) × (List Int) × Int × Int) (Ko : Exit → Fr → Option ρ) (s : (List Int) × Int) (nx : ((List Int) × Int) → Option ρ) : Option ρ :=
  Gm.triple_third_s6 n c.1 c.2.1 c.2.2.1 c.2.2.2 s.1 s.2 (fun a0 a1 => nx (a0, a1)) (fun (y0 : List Int) => Ko (.exit 2) [(0, .ls (.rows c.1)), (2, .ba (.ints .i64 c.2.1)), (4, .ba (.ints .i64 y0)), (13, .pv (.int .i64 c.2.2.2))])
def F3 (c : (List (List Int)) × (List Int)) (s : (List Int) × Int) : Fr := [(0, .ls (.rows c.1)), (2, .ba (.ints .i64 c.2)), (4, .ba (.ints .i64 s.1)), (13, .pv (.int .i64 s.2))]
def d3 : Fr → Option (((List (List Int)) × (List Int)) × ((List Int) × Int))
  | [(0, .ls (.rows toArray0)), (2, .ba (.ints .i64 t2)), (4, .ba (.ints .i64 t4)), (13, .pv (.int .i64 t13))] => some ((toArray0, t2), (t4, t13))
  | _ => none
def st3 {ρ : Type} (n : Nat) (c : (List (List Int)) × (List Int)) (Ko : Exit → Fr → Option ρ) (s : (List Int) × Int) (nx : ((List Int) × Int) → Option ρ) : Option ρ :=
  Gm.triple_third_s3 n c.1 c.2 s.1 s.2 (fun a0 a1 => nx (a0, a1)) (fun (y0 : List Int) => Ko (.exit 0) [(0, .ls (.rows c.1)), (2, .ba (.ints .i64 c.2)), (4, .ba (.ints .i64 y0))])
def F15 (c : (List Int) × (List Int) × (List (List Int)) × Int × Int × (List Int) × Int) (s : (List Int) × Int) : Fr := [(2, .ba (.ints .i64 c.1)), (4, .ba (.ints .i64 s.1)), (8, .sl (.ints .i64 c.2.1)), (25, .ls (.rows c.2.2.1)), (26, .pv (.int .i64 c.2.2.2.1)), (27, .pv (.int .i64 c.2.2.2.2.1)), (31, .sl (.ints .i64 c.2.2.2.2.2.1)), (32, .pv (.int .i64 c.2.2.2.2.2.2)), (33, .pv (.int .i64 s.2))]
def d15 : Fr → Option (((List Int) × (List Int) × (List (List Int)) × Int × Int × (List Int) × Int) × ((List Int) × Int))
  | [(2, .ba (.ints .i64 t2)), (4, .ba (.ints .i64 t4)), (8, .sl (.ints .i64 t8)), (25, .ls (.rows t25)), (26, .pv (.int .i64 t26)), (27, .pv (.int .i64 t27)), (31, .sl (.ints .i64 t31)), (32, .pv (.int .i64 t32)), (33, .pv (.int .i64 t33))] => some ((t2, t8, t25, t26, t27, t31, t32), (t4, t33))
  | _ => none
def st15 {ρ : Type} (n : Nat) (c : (List Int) × (List Int) × (List (List Int)) × Int × Int × (List Int) × Int) (Ko : Exit → Fr → Option ρ) (s : (List Int) × Int) (nx : ((List Int) × Int) → Option ρ) : Option ρ :=
  Gm.triple_third_s15 n c.1 c.2.1 c.2.2.1 c.2.2.2.1 c.2.2.2.2.1 c.2.2.2.2.2.1 c.2.2.2.2.2.2 s.1 s.2 (fun a0 a1 => nx (a0, a1)) (fun (y0 : List Int) => Ko .ret [(3, .pv (.bool false)), (2, .ba (.ints .i64 y0))]) (fun (y0 : List Int) => Ko (.exit 6) [(2, .ba (.ints .i64 c.1)), (4, .ba (.ints .i64 y0)), (25, .ls (.rows c.2.2.1)), (26, .pv (.int .i64 c.2.2.2.1)), (27, .pv (.int .i64 c.2.2.2.2.1))])
def F12 (c : (List Int) × (List (List Int)) × Int) (s : (List Int) × Int) : Fr := [(2, .ba (.ints .i64 c.1)), (4, .ba (.ints .i64 s.1)), (25, .ls (.rows c.2.1)), (26, .pv (.int .i64 c.2.2)), (27, .pv (.int .i64 s.2))]
def d12 : Fr → Option (((List Int) × (List (List Int)) × Int) × ((List Int) × Int))
  | [(2, .ba (.ints .i64 t2)), (4, .ba (.ints .i64 t4)), (25, .ls (.rows t25)), (26, .pv (.int .i64 t26)), (27, .pv (.int .i64 t27))] => some ((t2, t25, t26), (t4, t27))
  | _ => none
def st12 {ρ : Type} (n : Nat) (c : (List Int) × (List (List Int)) × Int) (Ko : Exit → Fr → Option ρ) (s : (List Int) × Int) (nx : ((List Int) × Int) → Option ρ) : Option ρ :=
  Gm.triple_third_s12 n c.1 c.2.1 c.2.2 s.1 s.2 (fun a0 a1 => nx (a0, a1)) (fun (y0 : List Int) => Ko .ret [(3, .pv (.bool false)), (2, .ba (.ints .i64 y0))]) (fun (y0 : List Int) => Ko (.exit 4) [(2, .ba (.ints .i64 c.1)), (4, .ba (.ints .i64 y0))])
noncomputable def tab (ρ : Type) (n : Nat) : Tab ρ := { live := [(0, [0, 2]), (1, [0, 2, 4]), (2, [0, 2, 4, 13]), (3, [0, 2, 4, 13, 14]), (4, [0, 2, 4, 5, 13]), (5, [0, 2, 4, 5, 13, 16]), (6, [0, 2, 4, 5, 13, 16, 17]), (7, [0, 2, 4, 5, 6, 13, 16]), (8, [0, 2, 4, 5, 13, 16]), (9, [0, 2, 4, 5, 13, 16]), (10, [0, 2, 4, 13]), (11, [2, 4, 25, 26, 27]), (12, [2, 4, 25, 26, 27, 28]), (13, [2, 4, 8, 25, 26, 27]), (14, [2, 4, 8, 25, 26, 27, 31, 32, 33]), (15, [2, 4, 8, 25, 26, 27, 31, 32, 33, 34]), (16, [2, 4, 8, 9, 10, 25, 26, 27, 31, 32, 33]), (17, [2, 4, 8, 10, 11, 12, 25, 26, 27, 31, 32, 33]), (18, [2, 4, 8, 10, 11, 12, 25, 26, 27, 31, 32, 33, 55]), (19, [2, 3]), (20, [2, 4, 8, 25, 26, 27, 31, 32, 33]), (21, [2, 4, 8, 25, 26, 27, 31, 32, 33]), (22, [2, 4, 25, 26, 27]), (23, [2, 3])], xl := [(0, [0, 2, 4]), (1, [0, 2, 4, 13]), (2, [0, 2, 4, 13]), (3, [0, 2, 4, 5, 13, 16]), (4, [2, 4]), (5, [2, 4, 25, 26, 27]), (6, [2, 4, 25, 26, 27]), (7, [2, 4, 8, 25, 26, 27, 31, 32, 33])], rl := [2, 3], fz := [], jp := [], lp := [(6, fun A Ko => bnd (d6 A) fun p => iterM (st6 n p.1 Ko) n p.2), (3, fun A Ko => bnd (d3 A) fun p => iterM (st3 n p.1 Ko) n p.2), (15, fun A Ko => bnd (d15 A) fun p => iterM (st15 n p.1 Ko) n p.2), (12, fun A Ko => bnd (d12 A) fun p => iterM (st12 n p.1 Ko) n p.2)] }
noncomputable def b6 : Code := (cL (cB (c2 (c2 (cB (c1 (c2 (c2 (cL (cB (c2 (c1 (c2 (c2 body))))))))))))))
theorem d6_ok (A : Fr) (c : (List (List Int)) × (List Int) × Int × Int) (s : (List Int) × Int) (h : d6 A = some (c, s)) : A = F6 c s := by
  unfold d6 at h
  split at h
  · cases h; rfl
  · cases h
theorem step6 (ρ : Type) (n : Nat) (c : (List (List Int)) × (List Int) × Int × Int) (Ko : Exit → Fr → Option ρ) (s : (List Int) × Int) (nx : ((List (List Int)) × (List Int) × Int × Int) → ((List Int) × Int) → Option ρ) :
    AEO (env n) (answers ρ (used n) (used n)) (tab ρ n) b6 (F6 c s) (thenO (fun A => bnd (d6 (restr (keepOf (env n) b6) A)) fun p => nx p.1 p.2) Ko) = st6 n c Ko s (nx c) := by kernel_rfl
theorem lp6_ok {ρ : Type} (n : Nat) (hl : EntsOK Try.prog gl (used n)) : ∀ (A : Fr) (Ko : Exit → Fr → Option ρ) (r : ρ) (K : Exit → Fr → Prop), (bnd (d6 (restr (keepOf (env n) b6) A)) fun p => iterM (st6 n p.1 Ko) n p.2) = some r → (∀ e A, Ko e A = some r → K e A) → Gx.Sem Try.prog (env n) (.loop b6) A K :=
  fun A Ko r K h hk => loop_cod (P := Try.prog) (E := env n) (T := tab ρ n) (fun _ _ _ h => answers_ok h) F6 d6 (st6 n) d6_ok (show Cov _ (env n) (tab ρ n) b6 from ⟨trivial, ⟨⟨trivial, trivial⟩, ⟨⟨trivial, trivial⟩, trivial⟩⟩⟩) (fun c Ko s nx => step6 ρ n c Ko s nx) n A Ko r K h hk
noncomputable def b3 : Code := (cL (cB (c2 (c1 (c2 (c2 body))))))
theorem d3_ok (A : Fr) (c : (List (List Int)) × (List Int)) (s : (List Int) × Int) (h : d3 A = some (c, s)) : A = F3 c s := by
  unfold d3 at h
  split at h
  · cases h; rfl
  · cases h
theorem step3 (ρ : Type) (n : Nat) (c : (List (List Int)) × (List Int)) (Ko : Exit → Fr → Option ρ) (s : (List Int) × Int) (nx : ((List (List Int)) × (List Int)) → ((List Int) × Int) → Option ρ) :
    AEO (env n) (answers ρ (used n) (used n)) (tab ρ n) b3 (F3 c s) (thenO (fun A => bnd (d3 (restr (keepOf (env n) b3) A)) fun p => nx p.1 p.2) Ko) = st3 n c Ko s (nx c) := by kernel_rfl
theorem lp3_ok {ρ : Type} (n : Nat) (hl : EntsOK Try.prog gl (used n)) : ∀ (A : Fr) (Ko : Exit → Fr → Option ρ) (r : ρ) (K : Exit → Fr → Prop), (bnd (d3 (restr (keepOf (env n) b3) A)) fun p => iterM (st3 n p.1 Ko) n p.2) = some r → (∀ e A, Ko e A = some r → K e A) → Gx.Sem Try.prog (env n) (.loop b3) A K :=
  fun A Ko r K h hk => loop_cod (P := Try.prog) (E := env n) (T := tab ρ n) (fun _ _ _ h => answers_ok h) F3 d3 (st3 n) d3_ok (show Cov _ (env n) (tab ρ n) b3 from ⟨trivial, ⟨⟨trivial, trivial⟩, ⟨⟨trivial, ⟨trivial, lp6_ok n hl⟩⟩, trivial⟩⟩⟩) (fun c Ko s nx => step3 ρ n c Ko s nx) n A Ko r K h hk
noncomputable def b15 : Code := (cL (cB (c2 (c2 (cB (c1 (c2 (c2 (cL (cB (c2 (c1 (c2 (c2 (c2 body)))))))))))))))
theorem d15_ok (A : Fr) (c : (List Int) × (List Int) × (List (List Int)) × Int × Int × (List Int) × Int) (s : (List Int) × Int) (h : d15 A = some (c, s)) : A = F15 c s := by
  unfold d15 at h
  split at h
  · cases h; rfl
  · cases h
theorem step15 (ρ : Type) (n : Nat) (c : (List Int) × (List Int) × (List (List Int)) × Int × Int × (List Int) × Int) (Ko : Exit → Fr → Option ρ) (s : (List Int) × Int) (nx : ((List Int) × (List Int) × (List (List Int)) × Int × Int × (List Int) × Int) → ((List Int) × Int) → Option ρ) :
    AEO (env n) (answers ρ (used n) (used n)) (tab ρ n) b15 (F15 c s) (thenO (fun A => bnd (d15 (restr (keepOf (env n) b15) A)) fun p => nx p.1 p.2) Ko) = st15 n c Ko s (nx c) := by kernel_rfl
theorem lp15_ok {ρ : Type} (n : Nat) (hl : EntsOK Try.prog gl (used n)) : ∀ (A : Fr) (Ko : Exit → Fr → Option ρ) (r : ρ) (K : Exit → Fr → Prop), (bnd (d15 (restr (keepOf (env n) b15) A)) fun p => iterM (st15 n p.1 Ko) n p.2) = some r → (∀ e A, Ko e A = some r → K e A) → Gx.Sem Try.prog (env n) (.loop b15) A K :=
  fun A Ko r K h hk => loop_cod (P := Try.prog) (E := env n) (T := tab ρ n) (fun _ _ _ h => answers_ok h) F15 d15 (st15 n) d15_ok (show Cov _ (env n) (tab ρ n) b15 from ⟨trivial, ⟨⟨trivial, trivial⟩, ⟨⟨trivial, ⟨trivial, ⟨⟨trivial, ⟨⟨trivial, trivial⟩, trivial⟩⟩, trivial⟩⟩⟩, trivial⟩⟩⟩) (fun c Ko s nx => step15 ρ n c Ko s nx) n A Ko r K h hk
noncomputable def b12 : Code := (cL (cB (c2 (c1 (c2 (c2 (c2 body)))))))
theorem d12_ok (A : Fr) (c : (List Int) × (List (List Int)) × Int) (s : (List Int) × Int) (h : d12 A = some (c, s)) : A = F12 c s := by
  unfold d12 at h
  split at h
  · cases h; rfl
  · cases h
theorem step12 (ρ : Type) (n : Nat) (c : (List Int) × (List (List Int)) × Int) (Ko : Exit → Fr → Option ρ) (s : (List Int) × Int) (nx : ((List Int) × (List (List Int)) × Int) → ((List Int) × Int) → Option ρ) :
    AEO (env n) (answers ρ (used n) (used n)) (tab ρ n) b12 (F12 c s) (thenO (fun A => bnd (d12 (restr (keepOf (env n) b12) A)) fun p => nx p.1 p.2) Ko) = st12 n c Ko s (nx c) := by kernel_rfl
theorem lp12_ok {ρ : Type} (n : Nat) (hl : EntsOK Try.prog gl (used n)) : ∀ (A : Fr) (Ko : Exit → Fr → Option ρ) (r : ρ) (K : Exit → Fr → Prop), (bnd (d12 (restr (keepOf (env n) b12) A)) fun p => iterM (st12 n p.1 Ko) n p.2) = some r → (∀ e A, Ko e A = some r → K e A) → Gx.Sem Try.prog (env n) (.loop b12) A K :=
  fun A Ko r K h hk => loop_cod (P := Try.prog) (E := env n) (T := tab ρ n) (fun _ _ _ h => answers_ok h) F12 d12 (st12 n) d12_ok (show Cov _ (env n) (tab ρ n) b12 from ⟨trivial, ⟨⟨trivial, trivial⟩, ⟨⟨trivial, ⟨trivial, lp15_ok n hl⟩⟩, trivial⟩⟩⟩) (fun c Ko s nx => step12 ρ n c Ko s nx) n A Ko r K h hk
def enc (a : List (List Int)) : List AV := [.ls (.rows a)]
def dec : List AV → Option (List (List Int))
  | [.ls (.rows toArray0)] => some toArray0
  | _ => none
def emb (b : (List Int) × Bool) : AV × List AV := (.tp [.aa (.ints .i64 b.1), .pv (.bool b.2)], [])
def dr : AV → List AV → Option ((List Int) × Bool)
  | .tp [.aa (.ints .i64 r0), .pv (.bool r1)], [] => some (r0, r1)
  | _, _ => none
theorem dec_ok (vs : List AV) (a : List (List Int)) (h : dec vs = some a) : vs = enc a := by
  unfold dec at h
  split at h
  · cases h; rfl
  · cases h
theorem dr_ok (v : AV) (o : List AV) (b : (List Int) × Bool) (h : dr v o = some b) : emb b = (v, o) := by
  unfold dr at h
  split at h
  · cases h; rfl
  · cases h
noncomputable def ent (n : Nat) : Ent := { f := 30, ms := [.lend], α := List (List Int), β := (List Int) × Bool, dec := dec, enc := enc, emb := emb, m := fun a => Gm.triple_third n a, hdec := dec_ok }
theorem run (n : Nat) (a : List (List Int)) : AEO (env n) (answers ((List Int) × Bool) (used n) (used n)) (tab ((List Int) × Bool) n) body (frameOf (enc a) 0) (bodyO (env n) Try.f30.results.toList (enc a) dr) = (ent n).m a := by kernel_rfl
theorem ok (n : Nat) (hl : EntsOK Try.prog gl (used n)) : EntOK Try.prog gl (ent n) :=
  fnO_sound (P := Try.prog) (e := ent n) (fn := Try.f30) (body := body) (l := used n) (te := te) (gl := gl) (n := ⟨2, 70⟩) (cut := []) (keep := keep) (T := tab ((List Int) × Bool) n) (dr := dr) Try.func30 (by kernel_rfl) (by kernel_rfl) te_ok (by kernel_rfl) (by kernel_rfl) hl (show Cov _ (env n) (tab ((List Int) × Bool) n) body from ⟨trivial, ⟨trivial, ⟨⟨trivial, lp3_ok n hl⟩, ⟨⟨trivial, lp12_ok n hl⟩, ⟨trivial, trivial⟩⟩⟩⟩⟩) dr_ok (fun a => ⟨rfl, rfl⟩) (run n)
theorem all_ok (n : Nat) : EntOK Try.prog gl (ent n) := ok n trivial
end W_triple_third
namespace W_triple_open
noncomputable def body : Code := Try.f22.body.getD .skip
def keep : List (Nat × List Nat) := []
noncomputable def used (n : Nat) : List Ent := [W_design_Check.ent n, W_slices_ContainsFunc_intint__triple_open_1.ent n, W_triple_third.ent n]
noncomputable def env (n : Nat) : Env := envOf te gl (used n) ⟨1, 40⟩ [] keep
noncomputable def tab (ρ : Type) (_n : Nat) : Tab ρ := { live := [(0, [1, 2]), (1, [1, 2, 4]), (2, [1, 2, 4, 10]), (3, [2, 3]), (4, [1, 2, 15]), (5, [2, 3]), (6, [1, 2, 5, 6]), (7, [2, 5, 37]), (8, [2, 3]), (9, [2, 3])], xl := [], rl := [2, 3], fz := [], jp := [], lp := [] }
def enc (a : Int × (List (List Int))) : List AV := [.ag [.pv (.int .i64 a.1), .ls (.rows a.2)]]
def dec : List AV → Option (Int × (List (List Int)))
  | [.ag [.pv (.int .i64 d0_0), .ls (.rows d0_1)]] => some (d0_0, d0_1)
  | _ => none
def emb (b : (List Int) × Int) : AV × List AV := (.tp [.aa (.ints .i64 b.1), .pv (.int .i64 b.2)], [])
def dr : AV → List AV → Option ((List Int) × Int)
  | .tp [.aa (.ints .i64 r0), .pv (.int .i64 r1)], [] => some (r0, r1)
  | _, _ => none
theorem dec_ok (vs : List AV) (a : Int × (List (List Int))) (h : dec vs = some a) : vs = enc a := by
  unfold dec at h
  split at h
  · cases h; rfl
  · cases h
theorem dr_ok (v : AV) (o : List AV) (b : (List Int) × Int) (h : dr v o = some b) : emb b = (v, o) := by
  unfold dr at h
  split at h
  · cases h; rfl
  · cases h
noncomputable def ent (n : Nat) : Ent := { f := 22, ms := [.lend], α := Int × (List (List Int)), β := (List Int) × Int, dec := dec, enc := enc, emb := emb, m := fun a => Gm.triple_open n a.1 a.2, hdec := dec_ok }
theorem run (n : Nat) (a : Int × (List (List Int))) : AEO (env n) (answers ((List Int) × Int) (used n) (used n)) (tab ((List Int) × Int) n) body (frameOf (enc a) 0) (bodyO (env n) Try.f22.results.toList (enc a) dr) = (ent n).m a := by kernel_rfl
theorem ok (n : Nat) (hl : EntsOK Try.prog gl (used n)) : EntOK Try.prog gl (ent n) :=
  fnO_sound (P := Try.prog) (e := ent n) (fn := Try.f22) (body := body) (l := used n) (te := te) (gl := gl) (n := ⟨1, 40⟩) (cut := []) (keep := keep) (T := tab ((List Int) × Int) n) (dr := dr) Try.func22 (by kernel_rfl) (by kernel_rfl) te_ok (by kernel_rfl) (by kernel_rfl) hl (show Cov _ (env n) (tab ((List Int) × Int) n) body from ⟨trivial, ⟨⟨trivial, ⟨trivial, ⟨⟨trivial, trivial⟩, trivial⟩⟩⟩, ⟨⟨trivial, ⟨⟨trivial, trivial⟩, trivial⟩⟩, ⟨trivial, ⟨⟨trivial, ⟨⟨trivial, trivial⟩, trivial⟩⟩, ⟨trivial, trivial⟩⟩⟩⟩⟩⟩) dr_ok (fun a => ⟨rfl, rfl⟩) (run n)
theorem all_ok (n : Nat) : EntOK Try.prog gl (ent n) := ok n ⟨W_design_Check.all_ok n, W_slices_ContainsFunc_intint__triple_open_1.all_ok n, W_triple_third.all_ok n, trivial⟩
end W_triple_open
namespace W_triple_Check
noncomputable def body : Code := Try.f17.body.getD .skip
def keep : List (Nat × List Nat) := []
noncomputable def used (n : Nat) : List Ent := [W_triple_open.ent n]
noncomputable def env (n : Nat) : Env := envOf te gl (used n) ⟨1, 11⟩ [] keep
noncomputable def tab (ρ : Type) (_n : Nat) : Tab ρ := { live := [(0, [1]), (1, [4]), (2, [2])], xl := [], rl := [2], fz := [], jp := [], lp := [] }
def enc (a : Int × (List (List Int))) : List AV := [.ag [.pv (.int .i64 a.1), .ls (.rows a.2)]]
def dec : List AV → Option (Int × (List (List Int)))
  | [.ag [.pv (.int .i64 d0_0), .ls (.rows d0_1)]] => some (d0_0, d0_1)
  | _ => none
def emb (b : Int) : AV × List AV := (.pv (.int .i64 b), [])
def dr : AV → List AV → Option (Int)
  | .pv (.int .i64 r0), [] => some r0
  | _, _ => none
theorem dec_ok (vs : List AV) (a : Int × (List (List Int))) (h : dec vs = some a) : vs = enc a := by
  unfold dec at h
  split at h
  · cases h; rfl
  · cases h
theorem dr_ok (v : AV) (o : List AV) (b : Int) (h : dr v o = some b) : emb b = (v, o) := by
  unfold dr at h
  split at h
  · cases h; rfl
  · cases h
noncomputable def ent (n : Nat) : Ent := { f := 17, ms := [.lend], α := Int × (List (List Int)), β := Int, dec := dec, enc := enc, emb := emb, m := fun a => Gm.triple_Check n a.1 a.2, hdec := dec_ok }
theorem run (n : Nat) (a : Int × (List (List Int))) : AEO (env n) (answers (Int) (used n) (used n)) (tab (Int) n) body (frameOf (enc a) 0) (bodyO (env n) Try.f17.results.toList (enc a) dr) = (ent n).m a := by kernel_rfl
theorem ok (n : Nat) (hl : EntsOK Try.prog gl (used n)) : EntOK Try.prog gl (ent n) :=
  fnO_sound (P := Try.prog) (e := ent n) (fn := Try.f17) (body := body) (l := used n) (te := te) (gl := gl) (n := ⟨1, 11⟩) (cut := []) (keep := keep) (T := tab (Int) n) (dr := dr) Try.func17 (by kernel_rfl) (by kernel_rfl) te_ok (by kernel_rfl) (by kernel_rfl) hl (show Cov _ (env n) (tab (Int) n) body from ⟨trivial, ⟨trivial, ⟨trivial, trivial⟩⟩⟩) dr_ok (fun a => ⟨rfl, rfl⟩) (run n)
theorem all_ok (n : Nat) : EntOK Try.prog gl (ent n) := ok n ⟨W_triple_open.all_ok n, trivial⟩
end W_triple_Check
namespace W_law2_tripleFact
noncomputable def body : Code := Try.f14.body.getD .skip
def keep : List (Nat × List Nat) := []
noncomputable def used (n : Nat) : List Ent := [W_triple_Make.ent n, W_triple_Check.ent n]
noncomputable def env (n : Nat) : Env := envOf te gl (used n) ⟨0, 27⟩ [] keep
noncomputable def tab (ρ : Type) (_n : Nat) : Tab ρ := { live := [(0, []), (1, [1, 2]), (2, [1, 2, 3]), (3, [0])], xl := [], rl := [0], fz := [], jp := [], lp := [] }
def enc (_a : Unit) : List AV := []
def dec : List AV → Option (Unit)
  | [] => some ()
  | _ => none
def emb (b : Bool) : AV × List AV := (.pv (.bool b), [])
def dr : AV → List AV → Option (Bool)
  | .pv (.bool r0), [] => some r0
  | _, _ => none
theorem dec_ok (vs : List AV) (a : Unit) (h : dec vs = some a) : vs = enc a := by
  unfold dec at h
  split at h
  · cases h; rfl
  · cases h
theorem dr_ok (v : AV) (o : List AV) (b : Bool) (h : dr v o = some b) : emb b = (v, o) := by
  unfold dr at h
  split at h
  · cases h; rfl
  · cases h
noncomputable def ent (n : Nat) : Ent := { f := 14, ms := [], α := Unit, β := Bool, dec := dec, enc := enc, emb := emb, m := fun a => Gm.law2_tripleFact n, hdec := dec_ok }
theorem run (n : Nat) (a : Unit) : AEO (env n) (answers (Bool) (used n) (used n)) (tab (Bool) n) body (frameOf (enc a) 0) (bodyO (env n) Try.f14.results.toList (enc a) dr) = (ent n).m a := by kernel_rfl
theorem ok (n : Nat) (hl : EntsOK Try.prog gl (used n)) : EntOK Try.prog gl (ent n) :=
  fnO_sound (P := Try.prog) (e := ent n) (fn := Try.f14) (body := body) (l := used n) (te := te) (gl := gl) (n := ⟨0, 27⟩) (cut := []) (keep := keep) (T := tab (Bool) n) (dr := dr) Try.func14 (by kernel_rfl) (by kernel_rfl) te_ok (by kernel_rfl) (by kernel_rfl) hl (show Cov _ (env n) (tab (Bool) n) body from ⟨trivial, ⟨trivial, ⟨trivial, ⟨trivial, trivial⟩⟩⟩⟩) dr_ok (fun a => ⟨rfl, rfl⟩) (run n)
theorem all_ok (n : Nat) : EntOK Try.prog gl (ent n) := ok n ⟨W_triple_Make.all_ok n, W_triple_Check.all_ok n, trivial⟩
end W_law2_tripleFact
namespace W_design_Level_1
noncomputable def body : Code := Try.f40.body.getD .skip
def keep : List (Nat × List Nat) := []
noncomputable def used (_n : Nat) : List Ent := []
noncomputable def env (n : Nat) : Env := envOf te gl (used n) ⟨3, 8⟩ [] keep
noncomputable def tab (ρ : Type) (_n : Nat) : Tab ρ := { live := [(0, [0, 1]), (1, [3])], xl := [], rl := [3], fz := [], jp := [], lp := [] }
def enc (a : (List Int) × Int) : List AV := [.ls (.ints .i64 a.1), .lb [.pv (.int .i64 a.2)] 0]
def dec : List AV → Option ((List Int) × Int)
  | [.ls (.ints .i64 b0), .lb [.pv (.int .i64 t1)] 0] => some (b0, t1)
  | _ => none
def emb (b : Bool) : AV × List AV := (.pv (.bool b), [])
def dr : AV → List AV → Option (Bool)
  | .pv (.bool r0), [] => some r0
  | _, _ => none
theorem dec_ok (vs : List AV) (a : (List Int) × Int) (h : dec vs = some a) : vs = enc a := by
  unfold dec at h
  split at h
  · cases h; rfl
  · cases h
theorem dr_ok (v : AV) (o : List AV) (b : Bool) (h : dr v o = some b) : emb b = (v, o) := by
  unfold dr at h
  split at h
  · cases h; rfl
  · cases h
noncomputable def ent (n : Nat) : Ent := { f := 40, ms := [.lend], α := (List Int) × Int, β := Bool, dec := dec, enc := enc, emb := emb, m := fun a => Gm.design_Level_1 n a.1 a.2, hdec := dec_ok }
theorem run (n : Nat) (a : (List Int) × Int) : AEO (env n) (answers (Bool) (used n) (used n)) (tab (Bool) n) body (frameOf (enc a) 0) (bodyO (env n) Try.f40.results.toList (enc a) dr) = (ent n).m a := by kernel_rfl
theorem ok (n : Nat) (hl : EntsOK Try.prog gl (used n)) : EntOK Try.prog gl (ent n) :=
  fnO_sound (P := Try.prog) (e := ent n) (fn := Try.f40) (body := body) (l := used n) (te := te) (gl := gl) (n := ⟨3, 8⟩) (cut := []) (keep := keep) (T := tab (Bool) n) (dr := dr) Try.func40 (by kernel_rfl) (by kernel_rfl) te_ok (by kernel_rfl) (by kernel_rfl) hl (show Cov _ (env n) (tab (Bool) n) body from ⟨trivial, ⟨trivial, trivial⟩⟩) dr_ok (fun a => ⟨rfl, rfl⟩) (run n)
theorem all_ok (n : Nat) : EntOK Try.prog gl (ent n) := ok n trivial
end W_design_Level_1
namespace W_slices_IndexFunc_intint__design_Level_1
noncomputable def body : Code := Try.f57.body.getD .skip
def keep : List (Nat × List Nat) := [(2, [0, 1, 7, 8])]
noncomputable def used (n : Nat) : List Ent := [W_design_Level_1.ent n]
noncomputable def env (n : Nat) : Env := envOf te gl (used n) ⟨4, 19⟩ [] keep
def F2 (c : (List (List Int)) × Int × Int) (s : Int) : Fr := [(0, .ls (.rows c.1)), (1, .fn 40 [.lb [.pv (.int .i64 c.2.1)] 0]), (7, .pv (.int .i64 c.2.2)), (8, .pv (.int .i64 s))]
def d2 : Fr → Option (((List (List Int)) × Int × Int) × (Int))
  | [(0, .ls (.rows s_0)), (1, .fn 40 [.lb [.pv (.int .i64 f1)] 0]), (7, .pv (.int .i64 t7)), (8, .pv (.int .i64 t8))] => some ((s_0, f1, t7), t8)
  | _ => none
def st2 {ρ : Type} (n : Nat) (c : (List (List Int)) × Int × Int) (Ko : Exit → Fr → Option ρ) (s : Int) (nx : Int → Option ρ) : Option ρ :=
  Gm.slices_IndexFunc_intint__design_Level_1_s2 n c.1 c.2.1 c.2.2 s nx (fun (y0 : Int) => Ko .ret [(4, .pv (.int .i64 y0))]) (Ko (.exit 0) [])
noncomputable def tab (ρ : Type) (n : Nat) : Tab ρ := { live := [(0, [0, 1]), (1, [0, 1, 7, 8]), (2, [0, 1, 7, 8, 9]), (3, [0, 1, 5, 7, 8]), (4, [0, 1, 5, 7, 8, 16]), (5, [4]), (6, [0, 1, 7, 8]), (7, [4])], xl := [(0, []), (1, [0, 1, 7, 8])], rl := [4], fz := [], jp := [], lp := [(2, fun A Ko => bnd (d2 A) fun p => iterM (st2 n p.1 Ko) n p.2)] }
noncomputable def b2 : Code := (cL (cB (c2 (c1 (c2 body)))))
theorem d2_ok (A : Fr) (c : (List (List Int)) × Int × Int) (s : Int) (h : d2 A = some (c, s)) : A = F2 c s := by
  unfold d2 at h
  split at h
  · cases h; rfl
  · cases h
theorem step2 (ρ : Type) (n : Nat) (c : (List (List Int)) × Int × Int) (Ko : Exit → Fr → Option ρ) (s : Int) (nx : ((List (List Int)) × Int × Int) → (Int) → Option ρ) :
    AEO (env n) (answers ρ (used n) (used n)) (tab ρ n) b2 (F2 c s) (thenO (fun A => bnd (d2 (restr (keepOf (env n) b2) A)) fun p => nx p.1 p.2) Ko) = st2 n c Ko s (nx c) := by kernel_rfl
theorem lp2_ok {ρ : Type} (n : Nat) (hl : EntsOK Try.prog gl (used n)) : ∀ (A : Fr) (Ko : Exit → Fr → Option ρ) (r : ρ) (K : Exit → Fr → Prop), (bnd (d2 (restr (keepOf (env n) b2) A)) fun p => iterM (st2 n p.1 Ko) n p.2) = some r → (∀ e A, Ko e A = some r → K e A) → Gx.Sem Try.prog (env n) (.loop b2) A K :=
  fun A Ko r K h hk => loop_cod (P := Try.prog) (E := env n) (T := tab ρ n) (fun _ _ _ h => answers_ok h) F2 d2 (st2 n) d2_ok (show Cov _ (env n) (tab ρ n) b2 from ⟨trivial, ⟨⟨trivial, trivial⟩, ⟨⟨trivial, ⟨trivial, ⟨⟨trivial, trivial⟩, trivial⟩⟩⟩, trivial⟩⟩⟩) (fun c Ko s nx => step2 ρ n c Ko s nx) n A Ko r K h hk
def enc (a : (List (List Int)) × Int) : List AV := [.ls (.rows a.1), .fn 40 [.lb [.pv (.int .i64 a.2)] 0]]
def dec : List AV → Option ((List (List Int)) × Int)
  | [.ls (.rows s_0), .fn 40 [.lb [.pv (.int .i64 f1)] 0]] => some (s_0, f1)
  | _ => none
def emb (b : Int) : AV × List AV := (.pv (.int .i64 b), [])
def dr : AV → List AV → Option (Int)
  | .pv (.int .i64 r0), [] => some r0
  | _, _ => none
theorem dec_ok (vs : List AV) (a : (List (List Int)) × Int) (h : dec vs = some a) : vs = enc a := by
  unfold dec at h
  split at h
  · cases h; rfl
  · cases h
theorem dr_ok (v : AV) (o : List AV) (b : Int) (h : dr v o = some b) : emb b = (v, o) := by
  unfold dr at h
  split at h
  · cases h; rfl
  · cases h
noncomputable def ent (n : Nat) : Ent := { f := 57, ms := [.lend, .lend], α := (List (List Int)) × Int, β := Int, dec := dec, enc := enc, emb := emb, m := fun a => Gm.slices_IndexFunc_intint__design_Level_1 n a.1 a.2, hdec := dec_ok }
theorem run (n : Nat) (a : (List (List Int)) × Int) : AEO (env n) (answers (Int) (used n) (used n)) (tab (Int) n) body (frameOf (enc a) 0) (bodyO (env n) Try.f57.results.toList (enc a) dr) = (ent n).m a := by kernel_rfl
theorem ok (n : Nat) (hl : EntsOK Try.prog gl (used n)) : EntOK Try.prog gl (ent n) :=
  fnO_sound (P := Try.prog) (e := ent n) (fn := Try.f57) (body := body) (l := used n) (te := te) (gl := gl) (n := ⟨4, 19⟩) (cut := []) (keep := keep) (T := tab (Int) n) (dr := dr) Try.func57 (by kernel_rfl) (by kernel_rfl) te_ok (by kernel_rfl) (by kernel_rfl) hl (show Cov _ (env n) (tab (Int) n) body from ⟨trivial, ⟨⟨trivial, lp2_ok n hl⟩, ⟨trivial, trivial⟩⟩⟩) dr_ok (fun a => ⟨rfl, rfl⟩) (run n)
theorem all_ok (n : Nat) : EntOK Try.prog gl (ent n) := ok n ⟨W_design_Level_1.all_ok n, trivial⟩
end W_slices_IndexFunc_intint__design_Level_1
namespace W_slices_ContainsFunc_intint__design_Level_1
noncomputable def body : Code := Try.f39.body.getD .skip
def keep : List (Nat × List Nat) := []
noncomputable def used (n : Nat) : List Ent := [W_slices_IndexFunc_intint__design_Level_1.ent n]
noncomputable def env (n : Nat) : Env := envOf te gl (used n) ⟨4, 9⟩ [] keep
noncomputable def tab (ρ : Type) (_n : Nat) : Tab ρ := { live := [(0, [0, 1]), (1, [4])], xl := [], rl := [4], fz := [], jp := [], lp := [] }
def enc (a : (List (List Int)) × Int) : List AV := [.ls (.rows a.1), .fn 40 [.lb [.pv (.int .i64 a.2)] 0]]
def dec : List AV → Option ((List (List Int)) × Int)
  | [.ls (.rows s_0), .fn 40 [.lb [.pv (.int .i64 f1)] 0]] => some (s_0, f1)
  | _ => none
def emb (b : Bool) : AV × List AV := (.pv (.bool b), [])
def dr : AV → List AV → Option (Bool)
  | .pv (.bool r0), [] => some r0
  | _, _ => none
theorem dec_ok (vs : List AV) (a : (List (List Int)) × Int) (h : dec vs = some a) : vs = enc a := by
  unfold dec at h
  split at h
  · cases h; rfl
  · cases h
theorem dr_ok (v : AV) (o : List AV) (b : Bool) (h : dr v o = some b) : emb b = (v, o) := by
  unfold dr at h
  split at h
  · cases h; rfl
  · cases h
noncomputable def ent (n : Nat) : Ent := { f := 39, ms := [.lend, .lend], α := (List (List Int)) × Int, β := Bool, dec := dec, enc := enc, emb := emb, m := fun a => Gm.slices_ContainsFunc_intint__design_Level_1 n a.1 a.2, hdec := dec_ok }
theorem run (n : Nat) (a : (List (List Int)) × Int) : AEO (env n) (answers (Bool) (used n) (used n)) (tab (Bool) n) body (frameOf (enc a) 0) (bodyO (env n) Try.f39.results.toList (enc a) dr) = (ent n).m a := by kernel_rfl
theorem ok (n : Nat) (hl : EntsOK Try.prog gl (used n)) : EntOK Try.prog gl (ent n) :=
  fnO_sound (P := Try.prog) (e := ent n) (fn := Try.f39) (body := body) (l := used n) (te := te) (gl := gl) (n := ⟨4, 9⟩) (cut := []) (keep := keep) (T := tab (Bool) n) (dr := dr) Try.func39 (by kernel_rfl) (by kernel_rfl) te_ok (by kernel_rfl) (by kernel_rfl) hl (show Cov _ (env n) (tab (Bool) n) body from ⟨trivial, ⟨trivial, trivial⟩⟩) dr_ok (fun a => ⟨rfl, rfl⟩) (run n)
theorem all_ok (n : Nat) : EntOK Try.prog gl (ent n) := ok n ⟨W_slices_IndexFunc_intint__design_Level_1.all_ok n, trivial⟩
end W_slices_ContainsFunc_intint__design_Level_1
namespace W_design_sets
noncomputable def body : Code := Try.f41.body.getD .skip
def keep : List (Nat × List Nat) := [(3, [3, 10, 11, 12]), (7, [3, 6, 10, 11, 12, 16, 17, 18])]
noncomputable def used (_n : Nat) : List Ent := []
noncomputable def env (n : Nat) : Env := envOf te gl (used n) ⟨1, 33⟩ [] keep
def F7 (c : (List Int) × (List (List Int)) × Int × Int × (List Int) × Int) (s : Int × Int) : Fr := [(3, .ow 80 (.ints .u64 c.1)), (6, .pv (.int .u64 s.1)), (10, .ls (.rows c.2.1)), (11, .pv (.int .i64 c.2.2.1)), (12, .pv (.int .i64 c.2.2.2.1)), (16, .sl (.ints .i64 c.2.2.2.2.1)), (17, .pv (.int .i64 c.2.2.2.2.2)), (18, .pv (.int .i64 s.2))]
def d7 : Fr → Option (((List Int) × (List (List Int)) × Int × Int × (List Int) × Int) × (Int × Int))
  | [(3, .ow 80 (.ints .u64 out3)), (6, .pv (.int .u64 s_6)), (10, .ls (.rows t10)), (11, .pv (.int .i64 t11)), (12, .pv (.int .i64 t12)), (16, .sl (.ints .i64 t16)), (17, .pv (.int .i64 t17)), (18, .pv (.int .i64 t18))] => some ((out3, t10, t11, t12, t16, t17), (s_6, t18))
  | _ => none
def st7 {ρ : Type} (n : Nat) (c : (List Int) × (List (List Int)) × Int × Int × (List Int) × Int) (Ko : Exit → Fr → Option ρ) (s : Int × Int) (nx : (Int × Int) → Option ρ) : Option ρ :=
  Gm.design_sets_s7 n c.1 c.2.1 c.2.2.1 c.2.2.2.1 c.2.2.2.2.1 c.2.2.2.2.2 s.1 s.2 (fun a0 a1 => nx (a0, a1)) (fun (y0 : Int) => Ko (.exit 2) [(3, .ow 80 (.ints .u64 c.1)), (6, .pv (.int .u64 y0)), (10, .ls (.rows c.2.1)), (11, .pv (.int .i64 c.2.2.1)), (12, .pv (.int .i64 c.2.2.2.1))])
def F3 (c : (List (List Int)) × Int) (s : (List Int) × Int) : Fr := [(3, .ow 80 (.ints .u64 s.1)), (10, .ls (.rows c.1)), (11, .pv (.int .i64 c.2)), (12, .pv (.int .i64 s.2))]
def d3 : Fr → Option (((List (List Int)) × Int) × ((List Int) × Int))
  | [(3, .ow 80 (.ints .u64 out3)), (10, .ls (.rows t10)), (11, .pv (.int .i64 t11)), (12, .pv (.int .i64 t12))] => some ((t10, t11), (out3, t12))
  | _ => none
def st3 {ρ : Type} (n : Nat) (c : (List (List Int)) × Int) (Ko : Exit → Fr → Option ρ) (s : (List Int) × Int) (nx : ((List Int) × Int) → Option ρ) : Option ρ :=
  Gm.design_sets_s3 n c.1 c.2 s.1 s.2 (fun a0 a1 => nx (a0, a1)) (fun (y0 : List Int) => Ko (.exit 0) [(3, .ow 80 (.ints .u64 y0))])
noncomputable def tab (ρ : Type) (n : Nat) : Tab ρ := { live := [(0, [1]), (1, [1, 3]), (2, [3, 10, 11, 12]), (3, [3, 10, 11, 12, 13]), (4, [3, 5, 10, 11, 12]), (5, [3, 5, 6, 10, 11, 12]), (6, [3, 6, 10, 11, 12, 16, 17, 18]), (7, [3, 6, 10, 11, 12, 16, 17, 18, 19]), (8, [3, 6, 8, 10, 11, 12, 16, 17, 18]), (9, [3, 6, 10, 11, 12, 16, 17, 18]), (10, [3, 6, 10, 11, 12, 16, 17, 18]), (11, [3, 10, 11, 12]), (12, [3, 10, 11, 12]), (13, [2, 3])], xl := [(0, [3]), (1, [3, 10, 11, 12]), (2, [3, 6, 10, 11, 12]), (3, [3, 6, 10, 11, 12, 16, 17, 18])], rl := [2, 3], fz := [], jp := [], lp := [(7, fun A Ko => bnd (d7 A) fun p => iterM (st7 n p.1 Ko) n p.2), (3, fun A Ko => bnd (d3 A) fun p => iterM (st3 n p.1 Ko) n p.2)] }
noncomputable def b7 : Code := (cL (cB (c2 (c1 (c2 (c2 (cB (c1 (c2 (c2 (cL (cB (c2 (c1 (c2 (c2 body))))))))))))))))
theorem d7_ok (A : Fr) (c : (List Int) × (List (List Int)) × Int × Int × (List Int) × Int) (s : Int × Int) (h : d7 A = some (c, s)) : A = F7 c s := by
  unfold d7 at h
  split at h
  · cases h; rfl
  · cases h
theorem step7 (ρ : Type) (n : Nat) (c : (List Int) × (List (List Int)) × Int × Int × (List Int) × Int) (Ko : Exit → Fr → Option ρ) (s : Int × Int) (nx : ((List Int) × (List (List Int)) × Int × Int × (List Int) × Int) → (Int × Int) → Option ρ) :
    AEO (env n) (answers ρ (used n) (used n)) (tab ρ n) b7 (F7 c s) (thenO (fun A => bnd (d7 (restr (keepOf (env n) b7) A)) fun p => nx p.1 p.2) Ko) = st7 n c Ko s (nx c) := by kernel_rfl
theorem lp7_ok {ρ : Type} (n : Nat) (hl : EntsOK Try.prog gl (used n)) : ∀ (A : Fr) (Ko : Exit → Fr → Option ρ) (r : ρ) (K : Exit → Fr → Prop), (bnd (d7 (restr (keepOf (env n) b7) A)) fun p => iterM (st7 n p.1 Ko) n p.2) = some r → (∀ e A, Ko e A = some r → K e A) → Gx.Sem Try.prog (env n) (.loop b7) A K :=
  fun A Ko r K h hk => loop_cod (P := Try.prog) (E := env n) (T := tab ρ n) (fun _ _ _ h => answers_ok h) F7 d7 (st7 n) d7_ok (show Cov _ (env n) (tab ρ n) b7 from ⟨trivial, ⟨⟨trivial, trivial⟩, ⟨⟨trivial, trivial⟩, trivial⟩⟩⟩) (fun c Ko s nx => step7 ρ n c Ko s nx) n A Ko r K h hk
noncomputable def b3 : Code := (cL (cB (c2 (c1 (c2 (c2 body))))))
theorem d3_ok (A : Fr) (c : (List (List Int)) × Int) (s : (List Int) × Int) (h : d3 A = some (c, s)) : A = F3 c s := by
  unfold d3 at h
  split at h
  · cases h; rfl
  · cases h
theorem step3 (ρ : Type) (n : Nat) (c : (List (List Int)) × Int) (Ko : Exit → Fr → Option ρ) (s : (List Int) × Int) (nx : ((List (List Int)) × Int) → ((List Int) × Int) → Option ρ) :
    AEO (env n) (answers ρ (used n) (used n)) (tab ρ n) b3 (F3 c s) (thenO (fun A => bnd (d3 (restr (keepOf (env n) b3) A)) fun p => nx p.1 p.2) Ko) = st3 n c Ko s (nx c) := by kernel_rfl
theorem lp3_ok {ρ : Type} (n : Nat) (hl : EntsOK Try.prog gl (used n)) : ∀ (A : Fr) (Ko : Exit → Fr → Option ρ) (r : ρ) (K : Exit → Fr → Prop), (bnd (d3 (restr (keepOf (env n) b3) A)) fun p => iterM (st3 n p.1 Ko) n p.2) = some r → (∀ e A, Ko e A = some r → K e A) → Gx.Sem Try.prog (env n) (.loop b3) A K :=
  fun A Ko r K h hk => loop_cod (P := Try.prog) (E := env n) (T := tab ρ n) (fun _ _ _ h => answers_ok h) F3 d3 (st3 n) d3_ok (show Cov _ (env n) (tab ρ n) b3 from ⟨trivial, ⟨⟨trivial, trivial⟩, ⟨⟨trivial, ⟨trivial, ⟨⟨trivial, lp7_ok n hl⟩, trivial⟩⟩⟩, trivial⟩⟩⟩) (fun c Ko s nx => step3 ρ n c Ko s nx) n A Ko r K h hk
def enc (a : Int × (List (List Int))) : List AV := [.ag [.pv (.int .i64 a.1), .ls (.rows a.2)]]
def dec : List AV → Option (Int × (List (List Int)))
  | [.ag [.pv (.int .i64 d0_0), .ls (.rows d0_1)]] => some (d0_0, d0_1)
  | _ => none
def emb (b : List Int) : AV × List AV := (.ow 80 (.ints .u64 b), [])
def dr : AV → List AV → Option (List Int)
  | .ow 80 (.ints .u64 r0), [] => some r0
  | _, _ => none
theorem dec_ok (vs : List AV) (a : Int × (List (List Int))) (h : dec vs = some a) : vs = enc a := by
  unfold dec at h
  split at h
  · cases h; rfl
  · cases h
theorem dr_ok (v : AV) (o : List AV) (b : List Int) (h : dr v o = some b) : emb b = (v, o) := by
  unfold dr at h
  split at h
  · cases h; rfl
  · cases h
noncomputable def ent (n : Nat) : Ent := { f := 41, ms := [.lend], α := Int × (List (List Int)), β := List Int, dec := dec, enc := enc, emb := emb, m := fun a => Gm.design_sets n a.1 a.2, hdec := dec_ok }
theorem run (n : Nat) (a : Int × (List (List Int))) : AEO (env n) (answers (List Int) (used n) (used n)) (tab (List Int) n) body (frameOf (enc a) 0) (bodyO (env n) Try.f41.results.toList (enc a) dr) = (ent n).m a := by kernel_rfl
theorem ok (n : Nat) (hl : EntsOK Try.prog gl (used n)) : EntOK Try.prog gl (ent n) :=
  fnO_sound (P := Try.prog) (e := ent n) (fn := Try.f41) (body := body) (l := used n) (te := te) (gl := gl) (n := ⟨1, 33⟩) (cut := []) (keep := keep) (T := tab (List Int) n) (dr := dr) Try.func41 (by kernel_rfl) (by kernel_rfl) te_ok (by kernel_rfl) (by kernel_rfl) hl (show Cov _ (env n) (tab (List Int) n) body from ⟨trivial, ⟨trivial, ⟨⟨trivial, lp3_ok n hl⟩, ⟨trivial, trivial⟩⟩⟩⟩) dr_ok (fun a => ⟨rfl, rfl⟩) (run n)
theorem all_ok (n : Nat) : EntOK Try.prog gl (ent n) := ok n trivial
end W_design_sets
namespace W_design_choices
def ent (_n : Nat) : Ent := choicesIE
theorem all_ok (n : Nat) : EntOK Try.prog gl (ent n) := choices_ok gl
end W_design_choices
namespace W_design_Level
noncomputable def body : Code := Try.f16.body.getD .skip
def keep : List (Nat × List Nat) := [(16, [4, 5, 6, 8, 9, 10, 11, 12, 52, 53, 54])]
noncomputable def used (n : Nat) : List Ent := [W_design_Check.ent n, W_slices_ContainsFunc_intint__design_Level_1.ent n, W_design_sets.ent n, W_design_choices.ent n]
noncomputable def env (n : Nat) : Env := envOf te gl (used n) ⟨2, 76⟩ [] keep
def Fg24 (c : Int × Int × Int × Int × Int × (List Int)) : Fr := [(4, .bx [.pv (.int .i64 c.1)]), (5, .bx [.pv (.int .i64 c.2.1)]), (6, .bx [.pv (.int .i64 c.2.2.1)]), (8, .bx [.pv (.int .i64 c.2.2.2.1)]), (9, .bx [.pv (.int .i64 c.2.2.2.2.1)]), (10, .bx [.ow 80 (.ints .u64 c.2.2.2.2.2)])]
def dg24 : Fr → Option (Int × Int × Int × Int × Int × (List Int))
  | [(4, .bx [.pv (.int .i64 t4)]), (5, .bx [.pv (.int .i64 t5)]), (6, .bx [.pv (.int .i64 t6)]), (8, .bx [.pv (.int .i64 t8)]), (9, .bx [.pv (.int .i64 t9)]), (10, .bx [.ow 80 (.ints .u64 t10)])] => some (t4, t5, t6, t8, t9, t10)
  | _ => none
def gg24 {ρ : Type} (n : Nat) (c : Int × Int × Int × Int × Int × (List Int)) (Ko : Fr → Option ρ) : Option ρ :=
  Gm.design_Level_g24 n c.1 c.2.1 c.2.2.1 c.2.2.2.1 c.2.2.2.2.1 c.2.2.2.2.2 (Ko [(4, .bx [.pv (.int .i64 c.2.2.2.1)]), (5, .bx [.pv (.int .i64 c.2.2.2.2.1)]), (6, .bx [.pv (.int .i64 0)])])
noncomputable def og24 : Array Oper := match (c1 (c2 (c2 (c2 (c2 (c2 (c2 (c2 (c2 body))))))))) with | .region _ ops _ => ops | _ => #[]
theorem dg24_ok (A : Fr) (c : Int × Int × Int × Int × Int × (List Int)) (h : dg24 A = some c) : A = Fg24 c := by
  unfold dg24 at h
  split at h
  · cases h; rfl
  · cases h
def Frf (c : Int × Int × Int × Int × (List Int)) (s : Int) : Fr := [(4, .bx [.pv (.int .i64 c.1)]), (5, .bx [.pv (.int .i64 c.2.1)]), (6, .bx [.pv (.int .i64 c.2.2.1)]), (8, .bx [.pv (.int .i64 c.2.2.2.1)]), (9, .bx [.pv (.int .i64 s)]), (10, .bx [.ow 80 (.ints .u64 c.2.2.2.2)])]
def dFrf : Fr → Option ((Int × Int × Int × Int × (List Int)) × (Int))
  | [(4, .bx [.pv (.int .i64 t4)]), (5, .bx [.pv (.int .i64 t5)]), (6, .bx [.pv (.int .i64 t6)]), (8, .bx [.pv (.int .i64 t8)]), (9, .bx [.pv (.int .i64 t9)]), (10, .bx [.ow 80 (.ints .u64 t10)])] => some ((t4, t5, t6, t8, t10), t9)
  | _ => none
def Grf (d : Int × Int × Int) : Fr := [(4, .bx [.pv (.int .i64 d.1)]), (5, .bx [.pv (.int .i64 d.2.1)]), (6, .bx [.pv (.int .i64 d.2.2)])]
def dGrf : Fr → Option (Int × Int × Int)
  | [(4, .bx [.pv (.int .i64 d0)]), (5, .bx [.pv (.int .i64 d1)]), (6, .bx [.pv (.int .i64 d2)])] => some (d0, d1, d2)
  | _ => none
def strf {ρ : Type} (n : Nat) (c : Int × Int × Int × Int × (List Int)) (xx : Int) (s : Int) (nx : Int → Option ρ) (kx : (Int × Int × Int) → Option ρ) : Option ρ :=
  Gm.design_Level_rs n c.1 c.2.1 c.2.2.1 c.2.2.2.1 c.2.2.2.2 xx s nx (fun a0 a1 a2 => kx (a0, a1, a2))
theorem dFrf_ok (A : Fr) (c : Int × Int × Int × Int × (List Int)) (s : Int) (h : dFrf A = some (c, s)) : A = Frf c s := by
  unfold dFrf at h
  split at h
  · cases h; rfl
  · cases h
theorem dGrf_ok (A : Fr) (d : Int × Int × Int) (h : dGrf A = some d) : A = Grf d := by
  unfold dGrf at h
  split at h
  · cases h; rfl
  · cases h
noncomputable def envr (n : Nat) : Env := { env n with n := ⟨11, (env n).n.hi⟩ }
noncomputable def brf : Code := (cR (cB (c2 (c1 (c2 (c2 (c2 (c2 (c2 (c2 (c2 body)))))))))))
def F16 (c : Int × Int × Int × Int × Int × (List Int) × Int × Int) (s : Int × Int) : Fr := [(4, .bx [.pv (.int .i64 c.1)]), (5, .bx [.pv (.int .i64 c.2.1)]), (6, .bx [.pv (.int .i64 c.2.2.1)]), (8, .bx [.pv (.int .i64 c.2.2.2.1)]), (9, .bx [.pv (.int .i64 c.2.2.2.2.1)]), (10, .bx [.ow 80 (.ints .u64 c.2.2.2.2.2.1)]), (11, .pv (.int .u64 c.2.2.2.2.2.2.1)), (12, .pv (.int .i64 s.1)), (52, .af 10 0), (53, .pv (.int .i64 c.2.2.2.2.2.2.2)), (54, .pv (.int .i64 s.2))]
def d16 : Fr → Option ((Int × Int × Int × Int × Int × (List Int) × Int × Int) × (Int × Int))
  | [(4, .bx [.pv (.int .i64 t4)]), (5, .bx [.pv (.int .i64 t5)]), (6, .bx [.pv (.int .i64 t6)]), (8, .bx [.pv (.int .i64 t8)]), (9, .bx [.pv (.int .i64 t9)]), (10, .bx [.ow 80 (.ints .u64 t10)]), (11, .pv (.int .u64 t11)), (12, .pv (.int .i64 t12)), (52, .af 10 0), (53, .pv (.int .i64 t53)), (54, .pv (.int .i64 t54))] => some ((t4, t5, t6, t8, t9, t10, t11, t53), (t12, t54))
  | _ => none
def st16 {ρ : Type} (n : Nat) (c : Int × Int × Int × Int × Int × (List Int) × Int × Int) (Ko : Exit → Fr → Option ρ) (s : Int × Int) (nx : (Int × Int) → Option ρ) : Option ρ :=
  Gm.design_Level_s16 n c.1 c.2.1 c.2.2.1 c.2.2.2.1 c.2.2.2.2.1 c.2.2.2.2.2.1 c.2.2.2.2.2.2.1 c.2.2.2.2.2.2.2 s.1 s.2 (fun a0 a1 => nx (a0, a1)) (fun (y0 : Int) => Ko (.exit 2) [(4, .bx [.pv (.int .i64 c.1)]), (5, .bx [.pv (.int .i64 c.2.1)]), (6, .bx [.pv (.int .i64 c.2.2.1)]), (8, .bx [.pv (.int .i64 c.2.2.2.1)]), (9, .bx [.pv (.int .i64 c.2.2.2.2.1)]), (10, .bx [.ow 80 (.ints .u64 c.2.2.2.2.2.1)]), (12, .pv (.int .i64 y0))])
noncomputable def tab (ρ : Type) (n : Nat) : Tab ρ := { live := [(0, [1, 2, 4, 5, 6]), (1, [1, 2, 4, 5, 6, 7]), (2, [1, 2, 4, 5, 6, 7, 18]), (3, [4, 5, 6]), (4, [1, 2, 4, 5, 6, 31]), (5, [4, 5, 6]), (6, [1, 2, 4, 5, 6, 35]), (7, [4, 5, 6]), (8, [1, 2, 4, 5, 6, 8, 9]), (9, [1, 2, 4, 5, 6, 8, 9, 44]), (10, [4, 5, 6]), (11, [1, 2, 4, 5, 6, 8, 9, 10]), (12, [4, 5, 6, 8, 9, 10, 50]), (14, [4, 5, 6, 8, 9, 10, 11, 12]), (15, [4, 5, 6, 8, 9, 10, 11, 12, 52, 53, 54]), (16, [4, 5, 6, 8, 9, 10, 11, 12, 52, 53, 54, 55]), (17, [4, 5, 6, 8, 9, 10, 11, 12, 14, 52, 53, 54]), (18, [4, 5, 6, 8, 9, 10, 11, 12, 52, 53, 54, 62]), (19, [4, 5, 6, 8, 9, 10, 11, 12, 52, 53, 54]), (20, [4, 5, 6, 8, 9, 10, 11, 12, 52, 53, 54]), (21, [4, 5, 6, 8, 9, 10, 12, 72]), (22, [4, 5, 6]), (23, [4, 5, 6, 8, 9, 10]), (24, [4, 5, 6])], xl := [(0, [4, 5, 6, 8, 9]), (1, [4, 5, 6, 8, 9, 10]), (2, [4, 5, 6, 8, 9, 10, 12]), (3, [4, 5, 6, 8, 9, 10, 11, 12, 52, 53, 54])], rl := [4, 5, 6], fz := [], jp := [], lp := [(16, fun A Ko => bnd (d16 A) fun p => iterM (st16 n p.1 Ko) n p.2)], rg := [(24, fun A Ko => bnd (dg24 A) fun c => gg24 n c Ko)], rf := some fun A Ko => bnd (chDec (Gx.look 50 A)) fun z => bnd (dFrf (restr [4, 5, 6, 8, 9, 10] A)) fun c => chk (0 ≤ z.1) <| chk (z.1 ≤ 64) <| chk (0 ≤ z.2) <| chk (z.2 ≤ 64) <| rangeC (strf n c.1) (fun d => Ko .ret (Grf d)) (chs z.1 z.2.toNat 0 0) c.2 (fun s => Ko .normal (Frf c.1 s)) }
theorem rg24_ok {ρ : Type} (n : Nat) (hl : EntsOK Try.prog gl (used n)) : ∀ (A : Fr) (Ko : Fr → Option ρ) (r : ρ) (K : Exit → Fr → Prop), (bnd (dg24 A) fun c => gg24 n c Ko) = some r → (∀ A, Ko A = some r → K .normal A) → Gx.Sem Try.prog (env n) (.region 24 og24 true) A K :=
  region_cod (P := Try.prog) (E := env n) (orc := answers ρ (used n) (used n)) (fun _ _ _ h => answers_ok h) Fg24 dg24 (gg24 n) [4, 5, 6] [1, 2] [[0, 1, 2, 3, 4], [0, 2, 1, 3, 4]] (by kernel_rfl) ⟨by kernel_rfl, by kernel_rfl⟩ (by kernel_rfl) dg24_ok (fun c Ko => by kernel_rfl)
noncomputable def b16 : Code := (cL (cB (c2 (c1 (c2 (cB (cR (cB (c2 (c1 (c2 (c2 (c2 (c2 (c2 (c2 (c2 body)))))))))))))))))
theorem d16_ok (A : Fr) (c : Int × Int × Int × Int × Int × (List Int) × Int × Int) (s : Int × Int) (h : d16 A = some (c, s)) : A = F16 c s := by
  unfold d16 at h
  split at h
  · cases h; rfl
  · cases h
theorem step16 (ρ : Type) (n : Nat) (c : Int × Int × Int × Int × Int × (List Int) × Int × Int) (Ko : Exit → Fr → Option ρ) (s : Int × Int) (nx : (Int × Int × Int × Int × Int × (List Int) × Int × Int) → (Int × Int) → Option ρ) :
    AEO (envr n) (answers ρ (used n) (used n)) (tab ρ n) b16 (F16 c s) (thenO (fun A => bnd (d16 (restr (keepOf (envr n) b16) A)) fun p => nx p.1 p.2) Ko) = st16 n c Ko s (nx c) := by kernel_rfl
theorem lp16_ok {ρ : Type} (n : Nat) (hl : EntsOK Try.prog gl (used n)) : ∀ (A : Fr) (Ko : Exit → Fr → Option ρ) (r : ρ) (K : Exit → Fr → Prop), (bnd (d16 (restr (keepOf (envr n) b16) A)) fun p => iterM (st16 n p.1 Ko) n p.2) = some r → (∀ e A, Ko e A = some r → K e A) → Gx.Sem Try.prog (envr n) (.loop b16) A K :=
  fun A Ko r K h hk => loop_cod (P := Try.prog) (E := envr n) (T := tab ρ n) (fun _ _ _ h => answers_ok h) F16 d16 (st16 n) d16_ok (show Cov _ (envr n) (tab ρ n) b16 from ⟨trivial, ⟨⟨trivial, trivial⟩, ⟨⟨trivial, ⟨trivial, ⟨trivial, trivial⟩⟩⟩, trivial⟩⟩⟩) (fun c Ko s nx => step16 ρ n c Ko s nx) n A Ko r K h hk
theorem steprf (ρ : Type) (n : Nat) (c : Int × Int × Int × Int × (List Int)) (xx : Int) (s : Int) (nx : (Int × Int × Int × Int × (List Int)) → (Int) → Option ρ) (kx : (Int × Int × Int) → Option ρ) :
    AEO (envr n) (answers ρ (used n) (used n)) (tab ρ n) brf (setd 11 (.pv (.int .u64 xx)) (Frf c s)) (fun e A => match e with | .normal => bnd (dFrf (restr [4, 5, 6, 8, 9, 10] A)) fun r => nx r.1 r.2 | .ret => bnd (dGrf (restr [4, 5, 6, 8, 9, 10] A)) fun d => kx d | _ => none) = strf n c xx s (nx c) kx := by kernel_rfl
theorem rf_ok {ρ : Type} (n : Nat) (hl : EntsOK Try.prog gl (used n)) : ∀ (A : Fr) (Ko : Exit → Fr → Option ρ) (r : ρ) (K : Exit → Fr → Prop), (bnd (chDec (Gx.look 50 A)) fun z => bnd (dFrf (restr [4, 5, 6, 8, 9, 10] A)) fun c => chk (0 ≤ z.1) <| chk (z.1 ≤ 64) <| chk (0 ≤ z.2) <| chk (z.2 ≤ 64) <| rangeC (strf n c.1) (fun d => Ko .ret (Grf d)) (chs z.1 z.2.toNat 0 0) c.2 (fun s => Ko .normal (Frf c.1 s))) = some r → (∀ e A, Ko e A = some r → K e A) → Gx.Sem Try.prog (env n) (.rangeFunc (.tmp 50) #[51] (.region 13 #[{ dst := some 11, op := .assign (.tmp 51), type := 80, pos := "design.go:89", after := #[], guard := none }] false) brf) A K :=
  range_cod (E := env n) (orc := answers ρ (used n) (used n)) (fun _ _ _ h => answers_ok h) (T := tab ρ n) Frf Grf dFrf dGrf [4, 5, 6, 8, 9, 10] (g := 50) (p := 51) (q := 11) (lo := 11) (body := brf) (strf n) dFrf_ok dGrf_ok (fun _ _ => by kernel_rfl) (fun _ => by kernel_rfl) (by kernel_rfl) (by show (2 : Nat) ≤ 11; omega) (by kernel_rfl) (by kernel_rfl) (by kernel_rfl) (by kernel_rfl) (show Cov _ (envr n) (tab ρ n) brf from ⟨trivial, ⟨⟨trivial, lp16_ok n hl⟩, ⟨⟨trivial, ⟨⟨trivial, trivial⟩, trivial⟩⟩, trivial⟩⟩⟩) (fun c xx s nx kx => steprf ρ n c xx s nx kx)
def enc (a : Int × (List (List Int)) × Int) : List AV := [.ag [.pv (.int .i64 a.1), .ls (.rows a.2.1)], .pv (.int .i64 a.2.2)]
def dec : List AV → Option (Int × (List (List Int)) × Int)
  | [.ag [.pv (.int .i64 toArray0_0), .ls (.rows toArray0_1)], .pv (.int .i64 t1)] => some (toArray0_0, toArray0_1, t1)
  | _ => none
def emb (b : Int × Int × Int) : AV × List AV := (.tp [.pv (.int .i64 b.1), .pv (.int .i64 b.2.1), .pv (.int .i64 b.2.2)], [])
def dr : AV → List AV → Option (Int × Int × Int)
  | .tp [.pv (.int .i64 r0), .pv (.int .i64 r1), .pv (.int .i64 r2)], [] => some (r0, r1, r2)
  | _, _ => none
theorem dec_ok (vs : List AV) (a : Int × (List (List Int)) × Int) (h : dec vs = some a) : vs = enc a := by
  unfold dec at h
  split at h
  · cases h; rfl
  · cases h
theorem dr_ok (v : AV) (o : List AV) (b : Int × Int × Int) (h : dr v o = some b) : emb b = (v, o) := by
  unfold dr at h
  split at h
  · cases h; rfl
  · cases h
noncomputable def ent (n : Nat) : Ent := { f := 16, ms := [.lend, .lend], α := Int × (List (List Int)) × Int, β := Int × Int × Int, dec := dec, enc := enc, emb := emb, m := fun a => Gm.design_Level n a.1 a.2.1 a.2.2, hdec := dec_ok }
theorem run (n : Nat) (a : Int × (List (List Int)) × Int) : AEO (env n) (answers (Int × Int × Int) (used n) (used n)) (tab (Int × Int × Int) n) body (frameOf (enc a) 0) (bodyO (env n) Try.f16.results.toList (enc a) dr) = (ent n).m a := by kernel_rfl
theorem ok (n : Nat) (hl : EntsOK Try.prog gl (used n)) : EntOK Try.prog gl (ent n) :=
  fnO_sound (P := Try.prog) (e := ent n) (fn := Try.f16) (body := body) (l := used n) (te := te) (gl := gl) (n := ⟨2, 76⟩) (cut := []) (keep := keep) (T := tab (Int × Int × Int) n) (dr := dr) Try.func16 (by kernel_rfl) (by kernel_rfl) te_ok (by kernel_rfl) (by kernel_rfl) hl (show Cov _ (env n) (tab (Int × Int × Int) n) body from ⟨trivial, ⟨⟨trivial, ⟨trivial, ⟨⟨trivial, trivial⟩, trivial⟩⟩⟩, ⟨⟨trivial, ⟨⟨trivial, trivial⟩, trivial⟩⟩, ⟨⟨trivial, ⟨⟨trivial, trivial⟩, trivial⟩⟩, ⟨trivial, ⟨⟨trivial, ⟨⟨trivial, trivial⟩, trivial⟩⟩, ⟨trivial, ⟨⟨trivial, rf_ok n hl⟩, ⟨rg24_ok n hl, trivial⟩⟩⟩⟩⟩⟩⟩⟩⟩) dr_ok (fun a => ⟨rfl, rfl⟩) (run n)
theorem all_ok (n : Nat) : EntOK Try.prog gl (ent n) := ok n ⟨W_design_Check.all_ok n, W_slices_ContainsFunc_intint__design_Level_1.all_ok n, W_design_sets.all_ok n, W_design_choices.all_ok n, trivial⟩
end W_design_Level
namespace W_law2_TripleKirkman
noncomputable def body : Code := Try.f5.body.getD .skip
def keep : List (Nat × List Nat) := []
noncomputable def used (n : Nat) : List Ent := [W_law2_tripleFact.ent n, W_triple_Make.ent n, W_design_Level.ent n, W_triple_Check.ent n]
noncomputable def env (n : Nat) : Env := envOf te gl (used n) ⟨3, 86⟩ [] keep
noncomputable def tab (ρ : Type) (_n : Nat) : Tab ρ := { live := [(0, [0, 3]), (1, [0, 3, 5]), (2, [0, 3, 13]), (3, [4]), (4, [0, 3, 6, 7]), (5, [0, 3, 6, 20]), (6, [0, 3, 6, 8, 9, 10]), (7, [0, 3, 6, 40]), (8, [4]), (9, [3, 55]), (10, [4]), (11, [3, 71]), (12, [4]), (13, [3, 7]), (14, [3, 75]), (15, [4]), (16, [4])], xl := [], rl := [4], fz := [], jp := [], lp := [] }
def enc (a : Int × Int × (List (List Int))) : List AV := [.pv (.int .i64 a.1), .ag [.pv (.int .i64 a.2.1), .ls (.rows a.2.2)]]
def dec : List AV → Option (Int × Int × (List (List Int)))
  | [.pv (.int .i64 toArray0), .ag [.pv (.int .i64 t1_0), .ls (.rows t1_1)]] => some (toArray0, t1_0, t1_1)
  | _ => none
def emb (b : Bool) : AV × List AV := (.pv (.bool b), [])
def dr : AV → List AV → Option (Bool)
  | .pv (.bool r0), [] => some r0
  | _, _ => none
theorem dec_ok (vs : List AV) (a : Int × Int × (List (List Int))) (h : dec vs = some a) : vs = enc a := by
  unfold dec at h
  split at h
  · cases h; rfl
  · cases h
theorem dr_ok (v : AV) (o : List AV) (b : Bool) (h : dr v o = some b) : emb b = (v, o) := by
  unfold dr at h
  split at h
  · cases h; rfl
  · cases h
noncomputable def ent (n : Nat) : Ent := { f := 5, ms := [.lend, .lend], α := Int × Int × (List (List Int)), β := Bool, dec := dec, enc := enc, emb := emb, m := fun a => Gm.law2_TripleKirkman n a.1 a.2.1 a.2.2, hdec := dec_ok }
theorem run (n : Nat) (a : Int × Int × (List (List Int))) : AEO (env n) (answers (Bool) (used n) (used n)) (tab (Bool) n) body (frameOf (enc a) 0) (bodyO (env n) Try.f5.results.toList (enc a) dr) = (ent n).m a := by kernel_rfl
theorem ok (n : Nat) (hl : EntsOK Try.prog gl (used n)) : EntOK Try.prog gl (ent n) :=
  fnO_sound (P := Try.prog) (e := ent n) (fn := Try.f5) (body := body) (l := used n) (te := te) (gl := gl) (n := ⟨3, 86⟩) (cut := []) (keep := keep) (T := tab (Bool) n) (dr := dr) Try.func5 (by kernel_rfl) (by kernel_rfl) te_ok (by kernel_rfl) (by kernel_rfl) hl (show Cov _ (env n) (tab (Bool) n) body from ⟨trivial, ⟨trivial, ⟨⟨trivial, ⟨⟨trivial, trivial⟩, trivial⟩⟩, ⟨trivial, ⟨⟨trivial, ⟨⟨trivial, ⟨⟨trivial, ⟨⟨trivial, trivial⟩, trivial⟩⟩, ⟨trivial, ⟨⟨trivial, trivial⟩, trivial⟩⟩⟩⟩, ⟨trivial, ⟨⟨trivial, trivial⟩, trivial⟩⟩⟩⟩, ⟨trivial, ⟨⟨trivial, ⟨⟨trivial, trivial⟩, trivial⟩⟩, ⟨trivial, trivial⟩⟩⟩⟩⟩⟩⟩⟩) dr_ok (fun a => ⟨rfl, rfl⟩) (run n)
theorem all_ok (n : Nat) : EntOK Try.prog gl (ent n) := ok n ⟨W_law2_tripleFact.all_ok n, W_triple_Make.all_ok n, W_design_Level.all_ok n, W_triple_Check.all_ok n, trivial⟩
end W_law2_TripleKirkman
end Go.Gw
