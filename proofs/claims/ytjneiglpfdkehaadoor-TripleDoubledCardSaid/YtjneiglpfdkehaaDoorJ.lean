/-
  TripleDoubled, joined: from the model's law to the given statement and its tied card.
  Conditions: none.
-/
import Derived.Test.YtjneiglpfdkehaaDoorRows
import Derived.Test.YtjneiglpfdkehaaDoorCards
import Derived.Test.YtjneiglpfdkehaaDoorTie
import Derived.Test.YtjneiglpfdkehaaDoorGw
import Derived.Test.YtjneiglpfdkehaaDoorG4
import Derived.Test.YtjneiglpfdkehaaDoorL32
import Derived.ProofKit
import Derived.Carry
import Derived.Lib.SmallJoins
import Derived.ChangeSame
import Derived.JoinedOf
import Derived.LaidLaws
import Derived.Handed
import Derived.OpenShut
import Derived.SevenTiedAt
namespace Go.Proofs.YtjneiglpfdkehaaDoor
open Go.ChangeShapes Go.WideShapes Go.ChangeAt Go.RowKit Go.Gx

theorem Tryd.own : ownKnob Tryd.prog.godebug = none := by kernel_rfl
theorem Tryd.laidOut : laidOutB Tryd.prog = true := by kernel_rfl
theorem Tryd.c31 : Tryd.prog.cellsOf 31 = 1 := by kernel_rfl
theorem Tryd.c22 : Tryd.prog.cellsOf 22 = 1 := by kernel_rfl
theorem Tryd.c3 : Tryd.prog.cellsOf 3 = 1 := by kernel_rfl
theorem Tryd.c33 : Tryd.prog.cellsOf 33 = 2 := by kernel_rfl
theorem Tryd.c125 : Tryd.prog.cellsOf 125 = 3 := by kernel_rfl
theorem Tryd.c126 : Tryd.prog.cellsOf 126 = 18 := by kernel_rfl
theorem Tryd.pairN : Tryd.prog.globalNamed "parterre/triple.pairings" = some 0 := by kernel_rfl
theorem Tryd.pairT : (Tryd.prog.globals[0]?).map (·.type) = some 126 := by kernel_rfl
section
variable {H : Type} {enc : TypeId × Value → H} {P : Program}
theorem post_of_below {f : Func} {s : ChangeSpec} {apart fresh handsOn again : Bool} {W W' : World} {args : Array Value} {v : Value} {ds gs : List (DataW H)} {before pa pv : List MemPlace}
    (hW : DataW.Whole enc P f.params.toList s.vars apart W args.toList ds gs before)
    (hres : ∀ (b : Nat) (sp : Nat → Bool) (hd : Bool), DataW.TrodAll enc P W' b sp hd f.resultTypes.toList (v.resultList f.resultTypes.size) (s.fn H (ds ++ gs)).results [])
    (hargs : ∀ sp : Nat → Bool, (∀ p ∈ before, sp p.block = true) → DataW.TrodAll enc P W' 0 sp true f.params.toList args.toList (s.fn H (ds ++ gs)).args pa)
    (hvars : ∀ sp : Nat → Bool, (∀ p ∈ before, sp p.block = true) → DataW.TrodVars enc P W' sp s.vars (s.fn H (ds ++ gs)).vars pv)
    (hps : before = pa ++ pv) (hb : Below W.heap.size W W')
    (hok : ∀ (j : Nat) (t : TypeId) (r : Value), f.resultTypes[j]? = some t → (v.resultList f.resultTypes.size)[j]? = some r → Value.okWide P W' .any 0 t r) :
    s.post enc P f apart fresh handsOn again W args v W' := by
  have hlt : ∀ p ∈ before, p.block < W.heap.size := fun p hp => hW.lt p hp
  have hold : ∀ p ∈ before, (fun b => decide (b < W.heap.size)) p.block = true := fun p hp => by simpa using hlt p hp
  refine ⟨ds, gs, before, [], pa, pv, hW, hres _ _ _, hargs _ hold, hvars _ hold, World.keptBut_mono (fun p hp => ⟨hp, ?_⟩) (hb.frame (· ∈ before)), fun _ => ?_⟩
  · rw [hps, List.mem_append] at hp
    exact Or.inr hp
  · obtain ⟨_, _, _, _, _, hz, hn⟩ := hW
    refine ⟨hok, _, _, ([] ++ pa) ++ pv, ⟨[] ++ pa, pv, trodAll_append (hargs _ (fun _ _ => rfl)) (hres _ _ _), hvars _ (fun _ _ => rfl), rfl, ?_, ?_⟩, ?_⟩
    · intro b off hp
      have hin : MemPlace.cell b off ∈ before := by rw [hps]; simpa using hp
      rw [hb.frozen (hlt _ hin)]
      exact hz b off hin
    · intro ha
      have := hn ha
      rw [hps] at this
      simpa using this
    · intro p hp _
      rw [hps]
      simpa using hp
/-- A row of numbers, by what it reads as. -/
theorem row_of {e t : TypeId} {W : World} {base : Nat} {spare : Nat → Bool} {held : Bool} {fuel n : Nat} {cs : List Value} {ls : List Int} {p : List MemPlace} (ht : P.underlying t = some (.array n e)) (he : P.underlying e = some (.int .i64)) (hce : P.cellsOf e = 1) (hct : P.cellsOf t = n)
    (h : DataW.trod enc P W base spare held fuel t cs = some (.agg (ls.map fun s => .lit (.int .i64 s)), p)) : cs = ls.map (.int .i64) := by
  obtain ⟨xs, m, rfl, hx, hlen, hxl, hi⟩ := DataW.trod_array ht h
  obtain ⟨hx1, _⟩ := Prod.mk.inj hx
  have hx1 : (ls.map fun s => (DataW.lit (.int .i64 s) : DataW H)) = xs.map (·.1) := by injection hx1
  have hll : ls.length = n := by
    have := congrArg List.length hx1
    simp at this
    omega
  rw [hct] at hlen
  apply List.ext_getElem?
  intro i
  by_cases hin : i < n
  · have h1 := hi i hin
    rw [hce, Nat.mul_one, List.getElem?_eq_getElem (by omega)] at h1
    obtain ⟨s, h2, h3, _⟩ := DataW.trod_int he h1
    have hcs : cs[i]? = some (.int .i64 s) := by
      have : ((cs.drop i).take 1)[0]? = some (.int .i64 s) := by rw [h2]; rfl
      simpa using this
    have h4 : (ls.map fun s => (DataW.lit (.int .i64 s) : DataW H))[i]? = some (.lit (.int .i64 s)) := by
      rw [hx1, List.getElem?_map, List.getElem?_eq_getElem (by omega), h3]
      rfl
    rw [List.getElem?_map, List.getElem?_eq_getElem (by omega)] at h4
    rw [hcs, List.getElem?_map, List.getElem?_eq_getElem (by omega)]
    simp at h4 ⊢
    exact h4.symm
  · rw [List.getElem?_eq_none (by omega), List.getElem?_eq_none (by simp; omega)]
end
def pairRows : List (List Int) := [[0, 1, 2], [0, 2, 1], [1, 0, 2], [1, 2, 0], [2, 0, 1], [2, 1, 0]]
/-- From what is laid to the variable's cells. -/
theorem glob_of_laid {W : World} (h : laidMet Tryd.prog Rows.tripleDoubledRow.laid W) (hsz : 0 < W.heap.size) : Glob Gw.gl W (here W) := by
  obtain ⟨ps, ⟨g, t, cs, fuel, p, q, hg, ht, hvar, hd, _, _⟩, _⟩ := h
  obtain rfl := Option.some.inj (Tryd.pairN.symm.trans hg)
  obtain rfl := Option.some.inj (Tryd.pairT.symm.trans ht)
  have hd0 := hd
  obtain ⟨xs, m, rfl, hx, hlen, hxl, hi⟩ := DataW.trod_array Tryd.underlying126 hd
  obtain ⟨hx1, _⟩ := Prod.mk.inj hx
  have hx1 : (pairRows.map fun r => (DataW.agg (r.map fun s => .lit (.int .i64 s)) : DataW Unit)) = xs.map (·.1) := by
    have := hx1
    injection this
  rw [Tryd.c126] at hlen
  rw [Tryd.c125] at hi
  have row : ∀ i (hin : i < 6), (cs.toList.drop (i * 3)).take 3 = (pairRows[i]'(by simpa [pairRows] using hin)).map (.int .i64) := by
    intro i hin
    have h1 := hi i hin
    rw [List.getElem?_eq_getElem (by omega)] at h1
    have h4 : xs[i].1 = DataW.agg ((pairRows[i]'(by simpa [pairRows] using hin)).map fun s => .lit (.int .i64 s)) := by
      have h5 : (pairRows.map fun r => (DataW.agg (r.map fun s => .lit (.int .i64 s)) : DataW Unit))[i]? = some xs[i].1 := by
        rw [hx1, List.getElem?_map, List.getElem?_eq_getElem (by omega)]
        rfl
      rw [List.getElem?_map, List.getElem?_eq_getElem (by simpa [pairRows] using hin)] at h5
      simpa using h5.symm
    rw [show xs[i] = (xs[i].1, xs[i].2) from rfl, h4] at h1
    exact row_of Tryd.underlying125 Tryd.underlying3 Tryd.c3 Tryd.c125 h1
  have hcs : cs.toList = ([0, 1, 2, 0, 2, 1, 1, 0, 2, 1, 2, 0, 2, 0, 1, 2, 1, 0] : List Int).map (.int .i64) := by
    have split : cs.toList = (cs.toList.drop (0 * 3)).take 3 ++ ((cs.toList.drop (1 * 3)).take 3 ++ ((cs.toList.drop (2 * 3)).take 3 ++ ((cs.toList.drop (3 * 3)).take 3 ++ ((cs.toList.drop (4 * 3)).take 3 ++ (cs.toList.drop (5 * 3)).take 3)))) := by
      have step : ∀ k, cs.toList.drop k = (cs.toList.drop k).take 3 ++ cs.toList.drop (k + 3) := fun k => by
        rw [← List.drop_drop, List.take_append_drop]
      have last : (cs.toList.drop (5 * 3)).take 3 = cs.toList.drop 15 := List.take_of_length_le (by simp at hlen ⊢; omega)
      rw [last]
      show cs.toList = _
      have e0 := step 0
      rw [step (0 + 3), step (0 + 3 + 3), step (0 + 3 + 3 + 3), step (0 + 3 + 3 + 3 + 3)] at e0
      simpa using e0
    rw [split, row 0 (by omega), row 1 (by omega), row 2 (by omega), row 3 (by omega), row 4 (by omega), row 5 (by omega)]
    rfl
  intro g c hgc
  simp only [Gw.gl, Gx.look] at hgc
  split at hgc
  · rename_i h0
    simp only [beq_iff_eq] at h0
    subst h0
    cases hgc
    unfold World.var? at hvar
    rw [Tryd.pairN, Option.bind_some] at hvar
    split at hvar
    · rename_i cs' e fz hh
      cases hvar
      exact ⟨hsz, e, fz, cs.toList, by rw [hh], hcs⟩
    · cases hvar
  · cases hgc
theorem okB_ex {l : List (List Int)} (hl : okR l) (m : Nat) : ∃ n, ∀ k, n ≤ k → Gl.okB k l ∧ m < k := by
  have key : ∀ (r : List (List Int)), ∃ k, ∀ b, b ∈ r → b.length < k := by
    intro r
    induction r with
    | nil => exact ⟨0, by simp⟩
    | cons b r ih =>
      obtain ⟨k, hk⟩ := ih
      refine ⟨k + b.length + 1, fun c hc => ?_⟩
      rcases List.mem_cons.1 hc with rfl | hc
      · omega
      · have := hk c hc; omega
  obtain ⟨k, hk⟩ := key l
  exact ⟨l.length + k + m + 1, fun j hj => ⟨⟨hl.1, by omega, fun b hb => ⟨(hl.2 b hb).1, by have := hk b hb; omega⟩⟩, by omega⟩⟩
theorem doubled_law (p q : Int) (l m : List (List Int)) (hl : okR l) (hm : okR m) : ∃ n, Gm.law2_TripleDoubled n p l q m = some true := by
  obtain ⟨n1, h1⟩ := okB_ex hl 300000
  obtain ⟨n2, h2⟩ := okB_ex hm 300000
  exact ⟨n1 + n2, Gl.doubled_law (h1 _ (by omega)).1 (h2 _ (by omega)).1 (h1 _ (by omega)).2⟩
/-- The settled world, the variable laid. -/
noncomputable def pairWorld (os : Os) : World :=
  let w0 := World.holding Tryd.prog os ⟨#[], #[], []⟩
  { w0 with heap := w0.heap.modify 0 fun
      | .cells _ t frozen => .cells #[.int .i64 0, .int .i64 1, .int .i64 2, .int .i64 0, .int .i64 2, .int .i64 1, .int .i64 1, .int .i64 0, .int .i64 2, .int .i64 1, .int .i64 2, .int .i64 0, .int .i64 2, .int .i64 0, .int .i64 1, .int .i64 2, .int .i64 1, .int .i64 0] t frozen
      | o => o }
theorem laid_met (os : Os) (args : Array Value) : laidMet Tryd.prog Rows.tripleDoubledRow.laid ((pairWorld os).forCall (fun _ _ => 0) ⟨#[], args, []⟩).memory :=
  laidMet_of_run' 8 (by kernel_rfl) (by kernel_rfl)
set_option maxRecDepth 100000 in
theorem doubled_lifted (os : Os) (started : os.Started) (H : Type) (enc : TypeId × Value → H) :
    ReturnsInHanded {} Tryd.checked os 7 .any (fun w args => (Rows.tripleDoubledSpec.pre enc Tryd.prog Tryd.f7 Rows.tripleDoubledRow.domain false w args ∧ laidMet Tryd.prog Rows.tripleDoubledRow.laid w) ∧ sizedMet enc Tryd.prog Tryd.f7 (OpenSpec.ofChange Rows.tripleDoubledSpec) false w args)
      (Rows.tripleDoubledSpec.post enc Tryd.prog Tryd.f7 false true false false) := by
  refine returnsInHanded_of_change_and (C := Tryd.checked) (X := fun w _ => laidMet Tryd.prog Rows.tripleDoubledRow.laid w) (fun _ _ _ hh h => h.of_heap hh) Tryd.own started (by kernel_rfl) Tryd.func7
    (ChangeSpec.witness_at (enc := enc) (C := Tryd.checked) (os := os) (X := fun w _ => laidMet Tryd.prog Rows.tripleDoubledRow.laid w) false (pairWorld os) #[.agg #[.int .i64 0, .slice none 0 0], .agg #[.int .i64 0, .slice none 0 0]] 8 rfl (by kernel_rfl) (by kernel_rfl) (by kernel_rfl) (by kernel_rfl) (by kernel_rfl) (laid_met os _)) ?_
  intro W base args ds gs before hval0 hW hcnd0 _ hL _
  clear hcnd0
  have hval : ∀ (j : Nat) t v, Tryd.f7.params[j]? = some t → args[j]? = some v → Value.okWide Tryd.prog W .any base t v := hval0
  have hW' := hW
  obtain ⟨p, q, hA0, hV, rfl, hfz, hnd⟩ := hW
  have hA : DataW.TrodAll enc Tryd.prog W 0 (fun _ => true) true Tryd.f7.params.toList args.toList ds p := hA0
  rw [Tryd.params7] at hA hval
  obtain ⟨v0, v1, d0, d1, p0, p1, rfl, rfl, rfl, h0, h1⟩ := trodAll_two hA
  obtain ⟨rfl, rfl⟩ := trodVars_none hV
  have h0k := h0
  have h1k := h1
  obtain ⟨u0, u1, y0, y1, m, rfl, rfl, rfl, ha, hb⟩ := Joins.open_agg2 Tryd.underlying33 (by kernel_rfl) Tryd.c33 (hval 0 33 v0 rfl rfl) h0
  obtain ⟨u2, u3, y2, y3, m', rfl, rfl, rfl, hc, hd⟩ := Joins.open_agg2 Tryd.underlying33 (by kernel_rfl) Tryd.c33 (hval 1 33 v1 rfl rfl) h1
  obtain ⟨x, rfl, hx⟩ := opens_int Tryd.underlying3 ha
  obtain ⟨x2, rfl, hx2⟩ := opens_int Tryd.underlying3 hc
  obtain ⟨l, hl, hr⟩ := opens_rows Tryd.underlying31 Tryd.underlying22 Tryd.underlying3 Tryd.c22 Tryd.c3 hb
  obtain ⟨l2, hl2, hr2⟩ := opens_rows Tryd.underlying31 Tryd.underlying22 Tryd.underlying3 Tryd.c22 Tryd.c3 hd
  clear hA0 hval0
  simp only [List.append_nil] at hW'
  have hlt : ∀ z ∈ (y0.2 ++ y1.2) ++ (y2.2 ++ y3.2), z.block < W.heap.size := fun z hz => hW'.lt z (by simpa using hz)
  have hpos : 0 < W.heap.size := by
    obtain ⟨ps, ⟨g, t, cs, fuel, p, q, hg, ht, hvar, _⟩, _⟩ := hL
    obtain rfl := Option.some.inj (Tryd.pairN.symm.trans hg)
    unfold World.var? at hvar
    rw [Tryd.pairN, Option.bind_some] at hvar
    rcases Nat.lt_or_ge 0 W.heap.size with h | h
    · exact h
    · rw [Array.getElem?_eq_none h] at hvar
      cases hvar
  obtain ⟨n, hn⟩ := doubled_law x x2 l l2 hl hl2
  refine (law_calls (Gw.W_law2_TripleDoubled.all_ok n) (w := W) (xs := [.agg #[.int .i64 x, u1], .agg #[.int .i64 x2, u3]]) (a := (x, l, x2, l2)) (b := true) hn rfl (glob_of_laid hL hpos)
    ⟨⟨[.int .i64 x, u1], rfl, ⟨rfl, rfl, rfl⟩, hr _, trivial⟩, ⟨[.int .i64 x2, u3], rfl, ⟨rfl, rfl, rfl⟩, hr2 _, trivial⟩, trivial⟩ rfl).mono fun e W' ⟨he, hw⟩ => ?_
  subst he
  exact ⟨_, rfl, post_of_below (ds := [.agg [y0.1, y1.1], .agg [y2.1, y3.1]]) (gs := []) (pa := (y0.2 ++ y1.2) ++ (y2.2 ++ y3.2)) (pv := []) hW' (fun _ _ _ => trodAll_mk1 (shut_bool Tryd.underlying4 true))
    (fun sp hsp => trodAll_mk2
      (WideElems.Trod_stays Tryd.laidOut (by kernel_rfl) (of_decide_eq_true (by kernel_rfl)) h0k (fun z hz => hw.same (hlt z (List.mem_append_left _ hz))) (fun z hz => hsp z (List.mem_append_left _ hz)))
      (WideElems.Trod_stays Tryd.laidOut (by kernel_rfl) (of_decide_eq_true (by kernel_rfl)) h1k (fun z hz => hw.same (hlt z (List.mem_append_right _ hz))) (fun z hz => hsp z (List.mem_append_right _ hz))))
    (fun _ _ => rfl) (by simp) hw
    (ok_one (by kernel_rfl) rfl (okWide_bool_mk Tryd.underlying4 true))⟩
theorem doubled_holds : Rows.TripleDoubledSaid :=
  OpenClaim.holds_of_wide 7 Tryd.f7 rfl rfl rfl rfl rfl rfl rfl ⟨rfl, rfl, rfl, rfl, rfl⟩ rfl rfl rfl rfl rfl (by kernel_rfl) Tryd.func7 (by kernel_rfl)
    (of_decide_eq_true (by kernel_rfl)) (by unfold Func.isWrapper; first | (rw [if_pos (by decide +kernel)]; kernel_rfl) | (rw [if_neg (by decide +kernel)]; exact ⟨rfl, rfl⟩))
    (fun os started H enc _ => doubled_lifted os started H enc)
theorem doubled_card_holds : Rows.TripleDoubledCardSaid :=
  Claim7.holds_tied_plain_at .later [] [.data] true (true, "d37e92b3a3f6952552f191bb9361e02fe4eceeab3ef508f950f8360b7490bb87") false
    doubled_holds (fun _ h => by cases h) (by kernel_rfl) (fun _ h => by cases h) tripleDoubled_row_tie rfl ⟨rfl, rfl⟩ (by kernel_rfl) rfl
    (fun f fn hf hfn => by
      obtain rfl : f = 7 := Option.some.inj ((show Tryd.prog.funcNamed "parterre/parterrelaw2.TripleDoubled" = some 7 by kernel_rfl).symm.trans hf) |>.symm
      obtain rfl : fn = Tryd.f7 := (Option.some.inj (Tryd.func7.symm.trans hfn)).symm
      exact ⟨by kernel_rfl, fun j t ht => by
        rw [Tryd.params7] at ht
        have h3 : t = 33 := by
          rcases j with _ | _ | j
          · simpa using ht.symm
          · simpa using ht.symm
          · simp at ht
        subst h3
        exact (show Tryd.prog.wantsStandIn 33 = false by kernel_rfl)⟩)
    (by kernel_rfl)
#print axioms doubled_card_holds
end Go.Proofs.YtjneiglpfdkehaaDoor
