/-
  TopSteiner, joined: from the model's law to the given statement and its tied card.
  Conditions: none.
-/
import Derived.Test.YtjneiglpfdkehaaDoorRows
import Derived.Test.YtjneiglpfdkehaaDoorCards
import Derived.Test.YtjneiglpfdkehaaDoorTie
import Derived.Test.YtjneiglpfdkehaaDoorGwA
import Derived.Test.YtjneiglpfdkehaaDoorG4
import Derived.Test.YtjneiglpfdkehaaDoorL48
import Derived.ProofKit
import Derived.Carry
import Derived.Lib.SmallJoins
import Derived.ChangeSame
import Derived.JoinedOf
import Derived.LaidLaws
import Derived.Handed
import Derived.OpenShut
import Derived.SevenTiedAt
namespace Go.Proofs.YtjneiglpfdkehaaDoor
open Go.ChangeShapes Go.WideShapes Go.ChangeAt Go.RowKit Go.Gx

theorem Tryd.own : ownKnob Tryd.prog.godebug = none := by kernel_rfl
theorem Tryd.laidOut : laidOutB Tryd.prog = true := by kernel_rfl
theorem Tryd.c31 : Tryd.prog.cellsOf 31 = 1 := by kernel_rfl
theorem Tryd.c22 : Tryd.prog.cellsOf 22 = 1 := by kernel_rfl
theorem Tryd.c3 : Tryd.prog.cellsOf 3 = 1 := by kernel_rfl
theorem Tryd.c166 : Tryd.prog.cellsOf 166 = 18 := by kernel_rfl
theorem Tryd.primN : Tryd.prog.globalNamed "parterre/field.primes" = some 1 := by kernel_rfl
theorem Tryd.primT : (Tryd.prog.globals[1]?).map (·.type) = some 166 := by kernel_rfl
section
variable {H : Type} {enc : TypeId × Value → H} {P : Program}
theorem post_of_below {f : Func} {s : ChangeSpec} {apart fresh handsOn again : Bool} {W W' : World} {args : Array Value} {v : Value} {ds gs : List (DataW H)} {before pa pv : List MemPlace}
    (hW : DataW.Whole enc P f.params.toList s.vars apart W args.toList ds gs before)
    (hres : ∀ (b : Nat) (sp : Nat → Bool) (hd : Bool), DataW.TrodAll enc P W' b sp hd f.resultTypes.toList (v.resultList f.resultTypes.size) (s.fn H (ds ++ gs)).results [])
    (hargs : ∀ sp : Nat → Bool, (∀ p ∈ before, sp p.block = true) → DataW.TrodAll enc P W' 0 sp true f.params.toList args.toList (s.fn H (ds ++ gs)).args pa)
    (hvars : ∀ sp : Nat → Bool, (∀ p ∈ before, sp p.block = true) → DataW.TrodVars enc P W' sp s.vars (s.fn H (ds ++ gs)).vars pv)
    (hps : before = pa ++ pv) (hb : Below W.heap.size W W')
    (hok : ∀ (j : Nat) (t : TypeId) (r : Value), f.resultTypes[j]? = some t → (v.resultList f.resultTypes.size)[j]? = some r → Value.okWide P W' .any 0 t r) :
    s.post enc P f apart fresh handsOn again W args v W' := by
  have hlt : ∀ p ∈ before, p.block < W.heap.size := fun p hp => hW.lt p hp
  have hold : ∀ p ∈ before, (fun b => decide (b < W.heap.size)) p.block = true := fun p hp => by simpa using hlt p hp
  refine ⟨ds, gs, before, [], pa, pv, hW, hres _ _ _, hargs _ hold, hvars _ hold, World.keptBut_mono (fun p hp => ⟨hp, ?_⟩) (hb.frame (· ∈ before)), fun _ => ?_⟩
  · rw [hps, List.mem_append] at hp
    exact Or.inr hp
  · obtain ⟨_, _, _, _, _, hz, hn⟩ := hW
    refine ⟨hok, _, _, ([] ++ pa) ++ pv, ⟨[] ++ pa, pv, trodAll_append (hargs _ (fun _ _ => rfl)) (hres _ _ _), hvars _ (fun _ _ => rfl), rfl, ?_, ?_⟩, ?_⟩
    · intro b off hp
      have hin : MemPlace.cell b off ∈ before := by rw [hps]; simpa using hp
      rw [hb.frozen (hlt _ hin)]
      exact hz b off hin
    · intro ha
      have := hn ha
      rw [hps] at this
      simpa using this
    · intro p hp _
      rw [hps]
      simpa using hp
/-- A row of numbers, by what it reads as. -/
theorem row_of {e t : TypeId} {W : World} {base : Nat} {spare : Nat → Bool} {held : Bool} {fuel n : Nat} {cs : List Value} {ls : List Int} {p : List MemPlace} (ht : P.underlying t = some (.array n e)) (he : P.underlying e = some (.int .i64)) (hce : P.cellsOf e = 1) (hct : P.cellsOf t = n)
    (h : DataW.trod enc P W base spare held fuel t cs = some (.agg (ls.map fun s => .lit (.int .i64 s)), p)) : cs = ls.map (.int .i64) := by
  obtain ⟨xs, m, rfl, hx, hlen, hxl, hi⟩ := DataW.trod_array ht h
  obtain ⟨hx1, _⟩ := Prod.mk.inj hx
  have hx1 : (ls.map fun s => (DataW.lit (.int .i64 s) : DataW H)) = xs.map (·.1) := by injection hx1
  have hll : ls.length = n := by
    have := congrArg List.length hx1
    simp at this
    omega
  rw [hct] at hlen
  apply List.ext_getElem?
  intro i
  by_cases hin : i < n
  · have h1 := hi i hin
    rw [hce, Nat.mul_one, List.getElem?_eq_getElem (by omega)] at h1
    obtain ⟨s, h2, h3, _⟩ := DataW.trod_int he h1
    have hcs : cs[i]? = some (.int .i64 s) := by
      have : ((cs.drop i).take 1)[0]? = some (.int .i64 s) := by rw [h2]; rfl
      simpa using this
    have h4 : (ls.map fun s => (DataW.lit (.int .i64 s) : DataW H))[i]? = some (.lit (.int .i64 s)) := by
      rw [hx1, List.getElem?_map, List.getElem?_eq_getElem (by omega), h3]
      rfl
    rw [List.getElem?_map, List.getElem?_eq_getElem (by omega)] at h4
    rw [hcs, List.getElem?_map, List.getElem?_eq_getElem (by omega)]
    simp at h4 ⊢
    exact h4.symm
  · rw [List.getElem?_eq_none (by omega), List.getElem?_eq_none (by simp; omega)]
end
def primeRow : List Int := [2, 3, 5, 7, 11, 13, 17, 19, 23, 29, 31, 37, 41, 43, 47, 53, 59, 61]
/-- From what is laid to the variable's cells. -/
theorem glob_of_laid {W : World} (h : laidMet Tryd.prog Rows.topSteinerRow.laid W) : Glob Gw.gl W (here W) := by
  obtain ⟨ps, ⟨g, t, cs, fuel, p, q, hg, ht, hvar, hd, _, _⟩, _⟩ := h
  obtain rfl := Option.some.inj (Tryd.primN.symm.trans hg)
  obtain rfl := Option.some.inj (Tryd.primT.symm.trans ht)
  have hcs : cs.toList = primeRow.map (.int .i64) := row_of (ls := primeRow) Tryd.underlying166 Tryd.underlying3 Tryd.c3 Tryd.c166 hd
  intro g c hgc
  simp only [Gw.gl, Gx.look] at hgc
  split at hgc
  · rename_i h0
    simp only [beq_iff_eq] at h0
    subst h0
    cases hgc
    unfold World.var? at hvar
    rw [Tryd.primN, Option.bind_some] at hvar
    split at hvar
    · rename_i cs' e fz hh
      cases hvar
      exact ⟨(Array.getElem?_eq_some_iff.1 hh).1, e, fz, cs.toList, by rw [hh], hcs⟩
    · cases hvar
  · cases hgc
theorem okB_ex {l : List (List Int)} (hl : okR l) (m : Nat) : ∃ n, ∀ k, n ≤ k → Gl.okB k l ∧ m < k := by
  have key : ∀ (r : List (List Int)), ∃ k, ∀ b, b ∈ r → b.length < k := by
    intro r
    induction r with
    | nil => exact ⟨0, by simp⟩
    | cons b r ih =>
      obtain ⟨k, hk⟩ := ih
      refine ⟨k + b.length + 1, fun c hc => ?_⟩
      rcases List.mem_cons.1 hc with rfl | hc
      · omega
      · have := hk c hc; omega
  obtain ⟨k, hk⟩ := key l
  exact ⟨l.length + k + m + 1, fun j hj => ⟨⟨hl.1, by omega, fun b hb => ⟨(hl.2 b hb).1, by have := hk b hb; omega⟩⟩, by omega⟩⟩
theorem steiner_law (l : List (List Int)) (hl : okR l) : ∃ n, Gm.top_TopSteiner n l = some true := by
  obtain ⟨n, h⟩ := okB_ex hl 2000
  exact ⟨n, Gl.steiner_law (h n (Nat.le_refl _)).1 (h n (Nat.le_refl _)).2⟩
/-- The settled world, the variable laid. -/
noncomputable def primeWorld (os : Os) : World :=
  let w0 := World.holding Tryd.prog os ⟨#[], #[], []⟩
  { w0 with heap := w0.heap.modify 1 fun
      | .cells _ t frozen => .cells #[.int .i64 2, .int .i64 3, .int .i64 5, .int .i64 7, .int .i64 11, .int .i64 13, .int .i64 17, .int .i64 19, .int .i64 23, .int .i64 29, .int .i64 31, .int .i64 37, .int .i64 41, .int .i64 43, .int .i64 47, .int .i64 53, .int .i64 59, .int .i64 61] t frozen
      | o => o }
theorem laid_met (os : Os) (args : Array Value) : laidMet Tryd.prog Rows.topSteinerRow.laid ((primeWorld os).forCall (fun _ _ => 0) ⟨#[], args, []⟩).memory :=
  laidMet_of_run' 8 (by kernel_rfl) (by kernel_rfl)
set_option maxRecDepth 100000 in
theorem steiner_lifted (os : Os) (started : os.Started) (H : Type) (enc : TypeId × Value → H) :
    ReturnsInHanded {} Tryd.checked os 5 .any (fun w args => (Rows.topSteinerSpec.pre enc Tryd.prog Tryd.f5 Rows.topSteinerRow.domain false w args ∧ laidMet Tryd.prog Rows.topSteinerRow.laid w) ∧ sizedMet enc Tryd.prog Tryd.f5 (OpenSpec.ofChange Rows.topSteinerSpec) false w args)
      (Rows.topSteinerSpec.post enc Tryd.prog Tryd.f5 false true false false) := by
  refine returnsInHanded_of_change_and (C := Tryd.checked) (X := fun w _ => laidMet Tryd.prog Rows.topSteinerRow.laid w) (fun _ _ _ hh h => h.of_heap hh) Tryd.own started (by kernel_rfl) Tryd.func5
    (ChangeSpec.witness_at (enc := enc) (C := Tryd.checked) (os := os) (X := fun w _ => laidMet Tryd.prog Rows.topSteinerRow.laid w) false (primeWorld os) #[.slice none 0 0] 8 rfl (by kernel_rfl) (by kernel_rfl) (by kernel_rfl) (by kernel_rfl) (by kernel_rfl) (laid_met os _)) ?_
  intro W base args ds gs before hval0 hW hcnd0 _ hL _
  clear hcnd0
  have hval : ∀ (j : Nat) t v, Tryd.f5.params[j]? = some t → args[j]? = some v → Value.okWide Tryd.prog W .any base t v := hval0
  have hW' := hW
  obtain ⟨p, q, hA0, hV, rfl, hfz, hnd⟩ := hW
  have hA : DataW.TrodAll enc Tryd.prog W 0 (fun _ => true) true Tryd.f5.params.toList args.toList ds p := hA0
  rw [Tryd.params5] at hA hval
  obtain ⟨v0, d0, rfl, rfl, h0⟩ := trodAll_one hA
  obtain ⟨rfl, rfl⟩ := trodVars_none hV
  have h0k := h0
  obtain ⟨a1, len1, cap1, rfl⟩ := okWide_slice Tryd.underlying31 (hval 0 31 v0 rfl rfl)
  obtain ⟨fu, h0t⟩ := h0
  obtain ⟨l, hl, hr⟩ := opens_rows Tryd.underlying31 Tryd.underlying22 Tryd.underlying3 Tryd.c22 Tryd.c3 h0t
  clear hA0 hval0
  simp only [List.append_nil] at hW'
  have hlt : ∀ z ∈ p, z.block < W.heap.size := fun z hz => hW'.lt z (by simpa using hz)
  obtain ⟨n, hn⟩ := steiner_law l hl
  refine (law_calls (Gw.W_top_TopSteiner.all_ok n) (w := W) (xs := [.slice a1 len1 cap1]) (a := l) (b := true) hn rfl (glob_of_laid hL)
    ⟨(hr _).2, trivial⟩ rfl).mono fun e W' ⟨he, hw⟩ => ?_
  subst he
  exact ⟨_, rfl, post_of_below (ds := [d0]) (gs := []) (pa := p) (pv := []) hW' (fun _ _ _ => trodAll_mk1 (shut_bool Tryd.underlying4 true))
    (fun sp hsp => trodAll_mk1
      (WideElems.Trod_stays Tryd.laidOut (by kernel_rfl) (of_decide_eq_true (by kernel_rfl)) h0k (fun z hz => hw.same (hlt z hz)) (fun z hz => hsp z hz)))
    (fun _ _ => rfl) (by simp) hw
    (ok_one (by kernel_rfl) rfl (okWide_bool_mk Tryd.underlying4 true))⟩
theorem steiner_holds : Rows.TopSteinerSaid :=
  OpenClaim.holds_of_wide 5 Tryd.f5 rfl rfl rfl rfl rfl rfl rfl ⟨rfl, rfl, rfl, rfl, rfl⟩ rfl rfl rfl rfl rfl (by kernel_rfl) Tryd.func5 (by kernel_rfl)
    (of_decide_eq_true (by kernel_rfl)) (by unfold Func.isWrapper; first | (rw [if_pos (by decide +kernel)]; kernel_rfl) | (rw [if_neg (by decide +kernel)]; exact ⟨rfl, rfl⟩))
    (fun os started H enc _ => steiner_lifted os started H enc)
theorem steiner_card_holds : Rows.TopSteinerCardSaid :=
  Claim7.holds_tied_plain_at .later [] [.data] true (true, "d37e92b3a3f6952552f191bb9361e02fe4eceeab3ef508f950f8360b7490bb87") false
    steiner_holds (fun _ h => by cases h) (by kernel_rfl) (fun _ h => by cases h) topSteiner_row_tie rfl ⟨rfl, rfl⟩ (by kernel_rfl) rfl
    (fun f fn hf hfn => by
      obtain rfl : f = 5 := Option.some.inj ((show Tryd.prog.funcNamed "parterre/parterretop.TopSteiner" = some 5 by kernel_rfl).symm.trans hf) |>.symm
      obtain rfl : fn = Tryd.f5 := (Option.some.inj (Tryd.func5.symm.trans hfn)).symm
      exact ⟨by kernel_rfl, fun j t ht => by
        rw [Tryd.params5] at ht
        have h3 : t = 31 := by
          rcases j with _ | j
          · simpa using ht.symm
          · simp at ht
        subst h3
        exact (show Tryd.prog.wantsStandIn 31 = false by kernel_rfl)⟩)
    (by kernel_rfl)
#print axioms steiner_card_holds
end Go.Proofs.YtjneiglpfdkehaaDoor
