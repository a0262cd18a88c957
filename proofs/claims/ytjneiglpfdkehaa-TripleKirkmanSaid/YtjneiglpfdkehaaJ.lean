/-
  TripleKirkman, joined: from the model's law to the given statement.
  Conditions: none.
-/
import Derived.Test.YtjneiglpfdkehaaRows
import Derived.Test.YtjneiglpfdkehaaGw
import Derived.Test.YtjneiglpfdkehaaG4
import Derived.Test.YtjneiglpfdkehaaL53
import Derived.ProofKit
import Derived.Carry
import Derived.Lib.SmallJoins
import Derived.ChangeSame
import Derived.JoinedOf
namespace Go.Proofs.Ytjneiglpfdkehaa
open Go.ChangeShapes Go.WideShapes Go.ChangeAt Go.RowKit Go.Gx

theorem Try.own : ownKnob Try.prog.godebug = none := by kernel_rfl
theorem Try.laidOut : laidOutB Try.prog = true := by kernel_rfl
theorem Try.c24 : Try.prog.cellsOf 24 = 2 := by kernel_rfl
theorem Try.c22 : Try.prog.cellsOf 22 = 1 := by kernel_rfl
theorem Try.c41 : Try.prog.cellsOf 41 = 1 := by kernel_rfl
theorem Try.c3 : Try.prog.cellsOf 3 = 1 := by kernel_rfl
section
variable {H : Type} {enc : TypeId × Value → H} {P : Program}
theorem post_of_below {f : Func} {s : ChangeSpec} {apart fresh handsOn again : Bool} {W W' : World} {args : Array Value} {v : Value} {ds gs : List (DataW H)} {before pa pv : List MemPlace}
    (hW : DataW.Whole enc P f.params.toList s.vars apart W args.toList ds gs before)
    (hres : ∀ (b : Nat) (sp : Nat → Bool) (hd : Bool), DataW.TrodAll enc P W' b sp hd f.resultTypes.toList (v.resultList f.resultTypes.size) (s.fn H (ds ++ gs)).results [])
    (hargs : ∀ sp : Nat → Bool, (∀ p ∈ before, sp p.block = true) → DataW.TrodAll enc P W' 0 sp true f.params.toList args.toList (s.fn H (ds ++ gs)).args pa)
    (hvars : ∀ sp : Nat → Bool, (∀ p ∈ before, sp p.block = true) → DataW.TrodVars enc P W' sp s.vars (s.fn H (ds ++ gs)).vars pv)
    (hps : before = pa ++ pv) (hb : Below W.heap.size W W')
    (hok : ∀ (j : Nat) (t : TypeId) (r : Value), f.resultTypes[j]? = some t → (v.resultList f.resultTypes.size)[j]? = some r → Value.okWide P W' .any 0 t r) :
    s.post enc P f apart fresh handsOn again W args v W' := by
  have hlt : ∀ p ∈ before, p.block < W.heap.size := fun p hp => hW.lt p hp
  have hold : ∀ p ∈ before, (fun b => decide (b < W.heap.size)) p.block = true := fun p hp => by simpa using hlt p hp
  refine ⟨ds, gs, before, [], pa, pv, hW, hres _ _ _, hargs _ hold, hvars _ hold, World.keptBut_mono (fun p hp => ⟨hp, ?_⟩) (hb.frame (· ∈ before)), fun _ => ?_⟩
  · rw [hps, List.mem_append] at hp
    exact Or.inr hp
  · obtain ⟨_, _, _, _, _, hz, hn⟩ := hW
    refine ⟨hok, _, _, ([] ++ pa) ++ pv, ⟨[] ++ pa, pv, trodAll_append (hargs _ (fun _ _ => rfl)) (hres _ _ _), hvars _ (fun _ _ => rfl), rfl, ?_, ?_⟩, ?_⟩
    · intro b off hp
      have hin : MemPlace.cell b off ∈ before := by rw [hps]; simpa using hp
      rw [hb.frozen (hlt _ hin)]
      exact hz b off hin
    · intro ha
      have := hn ha
      rw [hps] at this
      simpa using this
    · intro p hp _
      rw [hps]
      simpa using hp
end
theorem okB_ex {l : List (List Int)} (hl : okR l) (m : Nat) : ∃ n, Gl.okB n l ∧ m < n := by
  have key : ∀ (r : List (List Int)), ∃ k, ∀ b, b ∈ r → b.length < k := by
    intro r
    induction r with
    | nil => exact ⟨0, by simp⟩
    | cons b r ih =>
      obtain ⟨k, hk⟩ := ih
      refine ⟨k + b.length + 1, fun c hc => ?_⟩
      rcases List.mem_cons.1 hc with rfl | hc
      · omega
      · have := hk c hc; omega
  obtain ⟨k, hk⟩ := key l
  exact ⟨l.length + k + m + 1, ⟨hl.1, by omega, fun b hb => ⟨(hl.2 b hb).1, by have := hk b hb; omega⟩⟩, by omega⟩
theorem kirkman_law (v p : Int) (l : List (List Int)) (hl : okR l) : ∃ n, Gm.law2_TripleKirkman n v p l = some true := by
  obtain ⟨n, h1, h2⟩ := okB_ex hl 2000
  exact ⟨n, Gl.kirkman_law h1 h2⟩
set_option maxRecDepth 100000 in
theorem kirkman_lifted (os : Os) (started : os.Started) (H : Type) (enc : TypeId × Value → H) :
    ReturnsInHanded {} Try.checked os 5 .any (Rows.tripleKirkmanSpec.pre6 enc Try.prog Try.f5 Rows.tripleKirkmanRow.domain false) (Rows.tripleKirkmanSpec.post enc Try.prog Try.f5 false true false false) := by
  refine returnsInHanded_of_change (C := Try.checked) Try.own started (by kernel_rfl) Try.func5
    (ChangeSpec.witness6 (enc := enc) (C := Try.checked) false ⟨#[], #[.int .i64 0, .agg #[.int .i64 0, .slice none 0 0]], []⟩ 8 (by kernel_rfl) (by kernel_rfl) (by kernel_rfl) (by kernel_rfl)) ?_
  intro W base args ds gs before hval0 hW hcnd _
  have hval : ∀ (j : Nat) t v, Try.f5.params[j]? = some t → args[j]? = some v → Value.okWide Try.prog W .any base t v := hval0
  have hW' := hW
  obtain ⟨p, q, hA0, hV, rfl, hfz, hnd⟩ := hW
  have hA : DataW.TrodAll enc Try.prog W 0 (fun _ => true) true Try.f5.params.toList args.toList ds p := hA0
  rw [Try.params5] at hA hval
  obtain ⟨v0, v1, d0, d1, p0, p1, rfl, rfl, rfl, h0, h1⟩ := trodAll_two hA
  obtain ⟨rfl, rfl⟩ := trodVars_none hV
  have h0k := h0
  have h1k := h1
  obtain ⟨x, rfl, rfl, rfl, _⟩ := open_int Try.underlying3 (hval 0 3 v0 rfl rfl) h0
  obtain ⟨u0, u1, y0, y1, m, rfl, rfl, rfl, ha, hb⟩ := Joins.open_agg2 Try.underlying24 (by kernel_rfl) Try.c24 (hval 1 24 v1 rfl rfl) h1
  obtain ⟨z, rfl, hx⟩ := opens_int Try.underlying3 ha
  obtain ⟨l, hl, hr⟩ := opens_rows Try.underlying22 Try.underlying41 Try.underlying3 Try.c41 Try.c3 hb
  clear hA0 hval0
  simp only [List.append_nil] at hW'
  have hlt : ∀ z ∈ [] ++ (y0.2 ++ y1.2), z.block < W.heap.size := fun z hz => hW'.lt z (by simpa using hz)
  obtain ⟨n, hn⟩ := kirkman_law x z l hl
  refine (law_calls (Gw.W_law2_TripleKirkman.all_ok n) (w := W) (xs := [.int .i64 x, .agg #[.int .i64 z, u1]]) (a := (x, z, l)) (b := true) hn rfl (fun g c h => by simp [Gw.gl, Gx.look] at h)
    ⟨⟨rfl, rfl⟩, ⟨[.int .i64 z, u1], rfl, ⟨rfl, rfl, rfl⟩, hr _, trivial⟩, trivial⟩ rfl).mono fun e W' ⟨he, hw⟩ => ?_
  subst he
  exact ⟨_, rfl, post_of_below (ds := [.lit (.int .i64 x), .agg [y0.1, y1.1]]) (gs := []) (pa := [] ++ (y0.2 ++ y1.2)) (pv := []) hW' (fun _ _ _ => trodAll_mk1 (shut_bool Try.underlying4 true))
    (fun sp hsp => trodAll_mk2
      (WideElems.Trod_stays Try.laidOut (by kernel_rfl) (of_decide_eq_true (by kernel_rfl)) h0k (fun z hz => hw.same (hlt z (List.mem_append_left _ hz))) (fun z hz => hsp z (List.mem_append_left _ hz)))
      (WideElems.Trod_stays Try.laidOut (by kernel_rfl) (of_decide_eq_true (by kernel_rfl)) h1k (fun z hz => hw.same (hlt z (List.mem_append_right _ hz))) (fun z hz => hsp z (List.mem_append_right _ hz))))
    (fun _ _ => rfl) (by simp) hw
    (ok_one (by kernel_rfl) rfl (okWide_bool_mk Try.underlying4 true))⟩
theorem kirkman_holds : Rows.TripleKirkmanSaid :=
  OpenClaim.holds_of_wide 5 Try.f5 rfl rfl rfl rfl rfl rfl rfl ⟨rfl, rfl, rfl, rfl, rfl⟩ rfl rfl rfl rfl rfl (by kernel_rfl) Try.func5 (by kernel_rfl)
    (of_decide_eq_true (by kernel_rfl)) (by unfold Func.isWrapper; first | (rw [if_pos (by decide +kernel)]; kernel_rfl) | (rw [if_neg (by decide +kernel)]; exact ⟨rfl, rfl⟩))
    (fun os started H enc _ => kirkman_lifted os started H enc)
#print axioms kirkman_holds
end Go.Proofs.Ytjneiglpfdkehaa
