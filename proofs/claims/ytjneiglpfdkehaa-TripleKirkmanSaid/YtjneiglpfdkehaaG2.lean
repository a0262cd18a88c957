/-
  Gx21: arguments of a call.
  Conditions: none; laws for the machine's soundness.
-/
import Derived.Test.YtjneiglpfdkehaaG1
import Derived.Tactics
import Derived.LoopN
namespace Go.Gx
open Go

section
variable {S S' L L' : Nat → Prop} {w : World} {ρ ρ' : Nat → Value}
theorem RP.wide (hL : ∀ b, L b → L' b) : ∀ {v : AV} {x : Value}, RP S L w v x → RP S L' w v x
  | .pv _, _, h | .jk, _, h | .nl .., _, h | .sl _, _, h | .ow .., _, h => h
  | .ls _, _, h => Ro.keep (fun _ hb => hb) (fun _ _ => rfl) h (fun b hb => hb.imp id (hL b)) (fun _ _ => rfl)
theorem RPs.wide (hL : ∀ b, L b → L' b) {v : AV} {x : Value} (h : RPs S L w v x) : RPs S L' w v x := ⟨h.1, RP.wide hL h.2⟩
theorem RAg.wide (hL : ∀ b, L b → L' b) {l : List AV} {x : Value} (h : RAg S L w l x) : RAg S L' w l x :=
  let ⟨cs, hx, h⟩ := h
  ⟨cs, hx, All2.mono (fun _ _ h => RPs.wide hL h) h⟩
theorem RT.wide (hL : ∀ b, L b → L' b) : ∀ {v : AV} {x : Value}, RT S L w v x → RT S L' w v x
  | .ag _, _, h => RAg.wide hL h
  | .aa _, _, h => h
  | .pv _, _, h | .jk, _, h | .nl .., _, h | .sl _, _, h | .ls _, _, h => RPs.wide hL h
  | .ow .., _, h | .tp _, _, h | .bx _, _, h | .ba _, _, h | .al _, _, h | .af .., _, h | .pt .., _, h | .ep .., _, h | .ef .., _, h | .rp _, _, h | .lb .., _, h | .la .., _, h | .fn .., _, h | .ss .., _, h => RPs.wide hL h
theorem RLb.wide (hL : ∀ b, L b → L' b) {l : List AV} {off : Nat} {x : Value} (h : RLb S L w l off x) : RLb S L' w l off x :=
  let ⟨b, e, fz, cs, hx, hb, hh, h⟩ := h
  ⟨b, e, fz, cs, hx, hb.imp id (hL b), hh, All2.mono (fun _ _ h => RPs.wide hL h) h⟩
theorem RSs.wide (hL : ∀ b, L b → L' b) {n : Nat} {l : List AV} {x : Value} (h : RSs S L w n l x) : RSs S L' w n l x :=
  let ⟨b, e, fz, cs, hx, hb, hh, h⟩ := h
  ⟨b, e, fz, cs, hx, hb.imp id (hL b), hh, All2.mono (fun _ _ h => RPs.wide hL h) h⟩
theorem RLa.wide (hL : ∀ b, L b → L' b) {c : Sq} {off : Nat} {x : Value} (h : RLa S L w c off x) : RLa S L' w c off x :=
  let ⟨b, e, fz, cs, hx, hb, hh, h⟩ := h
  ⟨b, e, fz, cs, hx, hb.imp id (hL b), hh, h⟩
theorem RC.wide (hL : ∀ b, L b → L' b) : ∀ {v : AV} {x : Value}, RC S L w ρ v x → AV.ref.refs [v] = [] → RC S L' w ρ' v x
  | .pt s off, _, _, hr => by simp [AV.ref.refs] at hr
  | .lb .., _, h, _ => RLb.wide hL h
  | .la .., _, h, _ => RLa.wide hL h
  | .pv _, _, h, _ | .jk, _, h, _ | .nl .., _, h, _ | .sl _, _, h, _ | .ls _, _, h, _ => RPs.wide hL h
  | .ow .., _, h, _ | .tp _, _, h, _ | .bx _, _, h, _ | .ba _, _, h, _ | .al _, _, h, _ | .af .., _, h, _ | .ag _, _, h, _ | .aa _, _, h, _ | .ep .., _, h, _ | .ef .., _, h, _ | .rp _, _, h, _ | .fn .., _, h, _ | .ss .., _, h, _ | .ao _, _, h, _ => RPs.wide hL h
theorem RCs.wide (hL : ∀ b, L b → L' b) : ∀ {l : List AV} {cs : List Value}, All2 (RC S L w ρ) l cs → AV.ref.refs l = [] → All2 (RC S L' w ρ') l cs
  | [], [], _, _ => trivial
  | v :: l, _ :: _, h, hr => by
    rw [refs_cons, List.append_eq_nil_iff] at hr
    exact ⟨RC.wide hL h.1 hr.1, RCs.wide hL h.2 hr.2⟩
theorem RDs.wide (hL : ∀ b, L b → L' b) : ∀ {l : List AV} {cs : List Value}, All2 (RD S L w ρ) l cs → AV.refsA l = [] → All2 (RD S L' w ρ') l cs
  | [], [], _, _ => trivial
  | v :: l, _ :: _, h, hr => by
    rw [refsA_cons, List.append_eq_nil_iff] at hr
    refine ⟨?_, RDs.wide hL h.2 hr.2⟩
    have h1 := h.1
    have h2 := hr.1
    cases v with
    | al s => simp [AV.refsA] at h2
    | _ => exact RPs.wide hL h1
theorem RV.wide (hL : ∀ b, L b → L' b) {v : AV} {x : Value} (h : RV S L w ρ v x) (hr : v.ref = []) : RV S L' w ρ' v x := by
  cases v with
  | ag l => exact RAg.wide hL h
  | aa l => exact h
  | tp l => exact let ⟨cs, hx, h⟩ := h; ⟨cs, hx, All2.mono (fun _ _ h => RT.wide hL h) h⟩
  | bx l => exact let ⟨b, e, cs, hx, hh, h⟩ := h; ⟨b, e, cs, hx, hh, All2.mono (fun _ _ h => RP.wide hL h) h⟩
  | ba c => exact h
  | rp v => exact let ⟨b, off, c, hx, hb, hc, h⟩ := h; ⟨b, off, c, hx, hb.imp id (hL b), hc, RPs.wide hL h⟩
  | lb l off => exact RLb.wide hL h
  | ss n l => exact RSs.wide hL h
  | la c off => exact RLa.wide hL h
  | fn f caps => exact let ⟨cs, hx, h⟩ := h; ⟨cs, hx, RCs.wide hL h (by simpa [AV.ref] using hr)⟩
  | ao l => exact let ⟨cs, hx, h⟩ := h; ⟨cs, hx, RDs.wide hL h (by simpa [AV.ref] using hr)⟩
  | pv v => exact h
  | jk => trivial
  | nl e c => exact h
  | sl c => exact h
  | ls c => exact RP.wide (v := .ls c) hL h
  | ow e c => exact h
  | _ => simp [AV.ref] at hr
end

section
variable {P : Program} {C : Ctx} {E : Env} {S S' L' : Nat → Prop} {A : Fr} {a : Act} {w w' : World} {K : Fr → Prop} {next : Act → World → Prop} {Q : Exit → Act → World → Prop} {o : Oper}

theorem lendF_rps (hL : ∀ b, C.L b → L' b) {v : AV} {x : Value} (h : RP S C.L w v x) (hb : ∀ b, b ∈ ownF v x → L' b) : RPs S L' w (lendF v) x := by
  cases v with
  | pv y => exact ⟨rfl, h⟩
  | jk => exact ⟨rfl, trivial⟩
  | nl e c => exact ⟨rfl, by rw [show x = .slice none 0 0 from h.1]; exact nl_ro h.2⟩
  | sl c => exact ⟨rfl, Ro.keep (fun _ hb => hb) (fun _ _ => rfl) h (fun b hb => .inl hb) (fun _ _ => rfl)⟩
  | ls c => exact ⟨rfl, RP.wide (v := .ls c) hL h⟩
  | ow e c => exact ⟨rfl, Own.ro (S' := S) (Z := fun b => S b ∨ L' b) h (fun _ hb => hb) (fun b hb' => .inr (hb b hb'))⟩
  | _ => exact h.elim
theorem lendF_all (hL : ∀ b, C.L b → L' b) : ∀ {l : List AV} {cs : List Value}, All2 (RP S C.L w) l cs → (∀ b, b ∈ ownFs l cs → L' b) → All2 (RPs S L' w) (l.map lendF) cs
  | [], [], _, _ => trivial
  | _ :: _, _ :: _, h, hb => ⟨lendF_rps hL h.1 (fun b hm => hb b (List.mem_append_left _ hm)), lendF_all hL h.2 (fun b hm => hb b (List.mem_append_right _ hm))⟩
theorem lendF_ag (hL : ∀ b, C.L b → L' b) : ∀ {l : List AV} {cs : List Value}, All2 (RPs S C.L w) l cs → All2 (RPs S L' w) (l.map lendF) cs
  | [], [], _ => trivial
  | _ :: _, _ :: _, h => ⟨lendF_rps hL h.1.2 (fun b hb => by rw [RPs.ownF (C := C) h.1] at hb; simp at hb), lendF_ag hL h.2⟩
/-- The lent slots' blocks are among those lent. -/
def Lent (A : Fr) (a : Act) (w : World) (L' : Nat → Prop) (ls : List Nat) : Prop := ∀ s, s ∈ ls → ∀ u, look s A = some u → ∀ b, b ∈ owned w u (rho a s) → L' b
theorem lend_bx (h : Inv C E.n S A a w) (hL : ∀ b, C.L b → L' b) {s : Nat} {l : List AV} {b off : Nat} (hl : look s A = some (.bx l)) (hlent : Lent A a w L' [s]) (hs : rho a s = .pointer (some ⟨b, 0, none⟩)) : RLb S L' w (l.map lendF) off (.pointer (some ⟨b, off, none⟩)) := by
  obtain ⟨b2, e, cs, hx, hh, hr⟩ := h.rel s _ hl
  have hb : b = b2 := by have := hs.symm.trans hx; simpa using this
  subst hb
  have hm : ∀ k, k ∈ b :: ownFs l cs → L' k := by
    intro k hk
    refine hlent s (by simp) _ hl k ?_
    rw [hs]; simpa [owned, rowOf_eq hh] using hk
  exact ⟨b, e, _, cs, rfl, .inr (hm b (List.mem_cons_self ..)), hh, lendF_all hL hr (fun k hk => hm k (List.mem_cons_of_mem _ hk))⟩
theorem lend_ba (h : Inv C E.n S A a w) {s : Nat} {c : Sq} {b off : Nat} (hl : look s A = some (.ba c)) (hlent : Lent A a w L' [s]) (hs : rho a s = .pointer (some ⟨b, 0, none⟩)) : RLa S L' w c off (.pointer (some ⟨b, off, none⟩)) := by
  obtain ⟨b2, e, cs, hx, hh, hr⟩ := h.rel s _ hl
  have hb : b = b2 := by have := hs.symm.trans hx; simpa using this
  subst hb
  refine ⟨b, e, _, cs, rfl, .inr (hlent s (by simp) _ hl b ?_), hh, hr⟩
  rw [hs]; simp [owned]
theorem lendAll_ok (h : Inv C E.n S A a w) (hL : ∀ b, C.L b → L' b) : ∀ {caps caps' : List AV} {cs : List Value}, All2 (RC S C.L w (rho a)) caps cs → lend.lendAll A caps = some caps' → Lent A a w L' (AV.ref.refs caps) →
    All2 (RC S L' w (fun _ => undef)) caps' cs ∧ AV.ref.refs caps' = [] ∧ All2 (RV S L' w (fun _ => undef)) caps' cs ∧ ∀ v, v ∈ caps' → argOK v = true ∧ v.owner = false
  | [], caps', [], _, hl, _ => by
    simp [lend.lendAll] at hl
    subst hl
    exact ⟨trivial, rfl, trivial, by simp⟩
  | v :: caps, caps', x :: cs, hc, hl, hlent => by
    have h1 : Lent A a w L' (AV.ref.refs [v]) := fun s hs => hlent s (by rw [refs_cons]; exact List.mem_append_left _ hs)
    have h2 : Lent A a w L' (AV.ref.refs caps) := fun s hs => hlent s (by rw [refs_cons]; exact List.mem_append_right _ hs)
    have fin : ∀ (v' : AV) (r' : List AV), lend.lendAll A caps = some r' → RC S L' w (fun _ => undef) v' x → AV.ref.refs [v'] = [] → RV S L' w (fun _ => undef) v' x → argOK v' = true ∧ v'.owner = false → caps' = v' :: r' →
        All2 (RC S L' w (fun _ => undef)) caps' (x :: cs) ∧ AV.ref.refs caps' = [] ∧ All2 (RV S L' w (fun _ => undef)) caps' (x :: cs) ∧ ∀ v, v ∈ caps' → argOK v = true ∧ v.owner = false := by
      intro v' r' hr h1 h2' h3 h4 e
      subst e
      obtain ⟨i1, i2, i3, i4⟩ := lendAll_ok h hL hc.2 hr h2
      refine ⟨⟨h1, i1⟩, by rw [refs_cons, h2', i2]; rfl, ⟨h3, i3⟩, ?_⟩
      intro u hu
      rcases List.mem_cons.1 hu with rfl | hu
      · exact h4
      · exact i4 u hu
    unfold lend.lendAll at hl
    split at hl
    · rename_i e; cases e
    · rename_i y r e; cases e
      split at hl
      · rename_i r' hr; simp at hl; exact fin (.pv y) r' hr (RPs.wide hL hc.1) rfl (RPs.rv (C := { C with L := L' }) (RPs.wide hL hc.1)) ⟨rfl, rfl⟩ hl.symm
      · simp at hl
    · rename_i y r e; cases e
      split at hl
      · rename_i r' hr; simp at hl; have hro : Ro S (fun b => S b ∨ L' b) w y x := Ro.keep (fun _ hb => hb) (fun _ _ => rfl) hc.1.2 (fun b hb => .inl hb) (fun _ _ => rfl); exact fin (.ls y) r' hr ⟨rfl, hro⟩ rfl hro ⟨rfl, rfl⟩ hl.symm
      · simp at hl
    · rename_i y r e; cases e
      split at hl
      · rename_i r' hr; simp at hl; exact fin (.ls y) r' hr (RPs.wide hL hc.1) rfl (RPs.rv (C := { C with L := L' }) (RPs.wide hL hc.1)) ⟨rfl, rfl⟩ hl.symm
      · simp at hl
    · rename_i y off r e; cases e
      split at hl
      · rename_i r' hr; simp at hl; exact fin (.lb y off) r' hr (RLb.wide hL hc.1) rfl (RLb.wide hL hc.1) ⟨rfl, rfl⟩ hl.symm
      · simp at hl
    · rename_i y off r e; cases e
      split at hl
      · rename_i r' hr; simp at hl; exact fin (.la y off) r' hr (RLa.wide hL hc.1) rfl (RLa.wide hL hc.1) ⟨rfl, rfl⟩ hl.symm
      · simp at hl
    · rename_i s off r e; cases e
      obtain ⟨b, hs, hx⟩ := hc.1
      subst hx
      split at hl
      · rename_i l r' hls hr
        simp at hl
        have := lend_bx (off := off) h hL hls (by simpa [AV.ref.refs] using h1) hs
        exact fin (.lb (l.map lendF) off) r' hr this rfl this ⟨rfl, rfl⟩ hl.symm
      · rename_i c r' hls hr
        simp at hl
        have := lend_ba (off := off) h hls (by simpa [AV.ref.refs] using h1) hs
        exact fin (.la c off) r' hr this rfl this ⟨rfl, rfl⟩ hl.symm
      · simp at hl
    · simp at hl
theorem lend_ok (h : Inv C E.n S A a w) (hL : ∀ b, C.L b → L' b) {x : Operand} {v v' : AV} (hx : opd A x = some v) (hl : lend A (otmp x) v = some v') (hlent : Lent A a w L' (lentOf (otmp x) v)) :
    RV S L' w (fun _ => undef) v' (a.eval x) ∧ argOK v' = true ∧ v'.owner = false := by
  have hr := eval_opd h hx
  cases v with
  | pv y => simp [lend] at hl; subst hl; exact ⟨hr, rfl, rfl⟩
  | sl c => simp [lend] at hl; subst hl; exact ⟨Ro.keep (fun _ hb => hb) (fun _ _ => rfl) hr (fun b hb => .inl hb) (fun _ _ => rfl), rfl, rfl⟩
  | ls c => simp [lend] at hl; subst hl; exact ⟨RP.wide (v := .ls c) hL hr, rfl, rfl⟩
  | nl e c =>
    simp [lend] at hl
    subst hl
    exact ⟨by rw [show a.eval x = .slice none 0 0 from hr.1]; exact nl_ro hr.2, rfl, rfl⟩
  | ag l =>
    simp [lend] at hl
    subst hl
    obtain ⟨cs, hx, hcs⟩ := hr
    exact ⟨⟨cs, hx, lendF_ag hL hcs⟩, rfl, rfl⟩
  | aa c => simp [lend] at hl; subst hl; exact ⟨hr, rfl, rfl⟩
  | lb l off => simp [lend] at hl; subst hl; exact ⟨RLb.wide hL hr, rfl, rfl⟩
  | ss n l => simp [lend] at hl
  | ao l => simp [lend] at hl
  | la c off => simp [lend] at hl; subst hl; exact ⟨RLa.wide hL hr, rfl, rfl⟩
  | ow e c =>
    simp [lend] at hl
    subst hl
    cases x with
    | tmp t =>
      refine ⟨Own.ro (S' := S) (Z := fun b => S b ∨ L' b) hr (fun _ hb => hb) (fun b hb => .inr (hlent t (by simp [lentOf, AV.owner, otmp]) _ hx b ?_)), rfl, rfl⟩
      rw [ownF_ow (w := w)] at hb; exact hb
    | const c => simp only [opd] at hx; split at hx <;> simp at hx
    | global g => simp [opd] at hx
    | func f => simp [opd] at hx
  | al s =>
    simp only [lend] at hl
    split at hl
    · rename_i e c hls
      simp at hl
      subst hl
      have he : a.eval x = rho a s := hr
      rw [he]
      refine ⟨Own.ro (S' := S) (Z := fun b => S b ∨ L' b) (h.rel s _ hls) (fun _ hb => hb) (fun b hb => .inr (hlent s (by simp [lentOf, AV.owner, AV.ref]) _ hls b ?_)), rfl, rfl⟩
      rw [ownF_ow (w := w)] at hb; exact hb
    · simp at hl
  | af s f =>
    simp only [lend] at hl
    split at hl
    · rename_i l hls
      split at hl
      · rename_i e c hlf
        simp at hl
        subst hl
        obtain ⟨b, e', cs, h1, h2, h3⟩ := hr
        obtain ⟨b2, e2, cs2, h4, h5, h6⟩ := h.rel s _ hls
        have hb : b = b2 := by have := h1.symm.trans h4; simpa using this
        subst hb
        rw [h2] at h5
        simp at h5
        obtain ⟨rfl, rfl⟩ := h5
        obtain ⟨y, hy, hr⟩ := h6.get hlf
        rw [h3] at hy
        cases hy
        refine ⟨Own.ro (S' := S) (Z := fun b => S b ∨ L' b) hr (fun _ hb => hb) (fun k hk => .inr (hlent s (by simp [lentOf, AV.owner, AV.ref]) _ hls k ?_)), rfl, rfl⟩
        rw [show rho a s = _ from h1]
        simp only [owned, rowOf_eq h2]
        exact List.mem_cons_of_mem _ (ownFs_mem hlf h3 hk)
      · simp at hl
    · simp at hl
  | bx l =>
    simp [lend] at hl
    subst hl
    cases x with
    | tmp t =>
      obtain ⟨b, e, cs, hxb, _⟩ := hr
      have hxb' : rho a t = .pointer (some ⟨b, 0, none⟩) := hxb
      have := lend_bx (off := 0) h hL hx (by simpa [lentOf, AV.owner, otmp] using hlent) hxb'
      exact ⟨by rw [hxb]; exact this, rfl, rfl⟩
    | const c => simp only [opd] at hx; split at hx <;> simp at hx
    | global g => simp [opd] at hx
    | func f => simp [opd] at hx
  | ba l =>
    simp [lend] at hl
    subst hl
    cases x with
    | tmp t =>
      obtain ⟨b, e, cs, hxb, _⟩ := hr
      have hxb' : rho a t = .pointer (some ⟨b, 0, none⟩) := hxb
      have := lend_ba (off := 0) h hx (by simpa [lentOf, AV.owner, otmp] using hlent) hxb'
      exact ⟨by rw [hxb]; exact this, rfl, rfl⟩
    | const c => simp only [opd] at hx; split at hx <;> simp at hx
    | global g => simp [opd] at hx
    | func f => simp [opd] at hx
  | pt s off =>
    obtain ⟨b, hs, hxb⟩ := hr
    rw [hxb]
    simp only [lend] at hl
    split at hl
    · rename_i l hls
      simp at hl
      subst hl
      exact ⟨lend_bx (off := off) h hL hls (by simpa [lentOf, AV.owner, AV.ref] using hlent) hs, rfl, rfl⟩
    · rename_i c hls
      simp at hl
      subst hl
      exact ⟨lend_ba (off := off) h hls (by simpa [lentOf, AV.owner, AV.ref] using hlent) hs, rfl, rfl⟩
    · simp at hl
  | fn f caps =>
    simp only [lend] at hl
    split at hl
    · rename_i caps' hc
      simp at hl
      subst hl
      obtain ⟨cs, hxb, hcs⟩ := hr
      obtain ⟨i1, i2, _, _⟩ := lendAll_ok h hL hcs hc (by simpa [lentOf, AV.owner, AV.ref] using hlent)
      exact ⟨⟨cs, hxb, i1⟩, by simp [argOK, i2], rfl⟩
    · simp at hl
  | jk => simp [lend] at hl
  | tp l => simp [lend] at hl
  | ep s i => simp [lend] at hl
  | ef s f i => simp [lend] at hl
  | rp v => simp [lend] at hl
end
end Go.Gx

/-
  Gx22: calls keep the invariant.
  Conditions: none; laws for the machine's soundness.
-/
namespace Go.Gx
open Go

section
variable {P : Program} {C : Ctx} {E : Env} {S S' L' : Nat → Prop} {A : Fr} {a : Act} {w w' : World} {K : Fr → Prop} {next : Act → World → Prop} {Q : Exit → Act → World → Prop} {o : Oper}

theorem frzArgs_ok : ∀ {l : List (Mode × Operand)} {A A' : Fr} {S : Nat → Prop}, Inv C E.n S A a w → frzArgs A l = some A' → ∃ S', (∀ b, S b → S' b) ∧ Inv C E.n S' A' a w
  | [], A, A', S, h, hf => by
    simp [frzArgs] at hf
    subst hf
    exact ⟨S, fun _ hb => hb, h⟩
  | (.frz, x) :: r, A, A', S, h, hf => by
    simp only [frzArgs] at hf
    split at hf
    · exact frzArgs_ok (l := r) h hf
    · exact frzArgs_ok (l := r) h hf
    split at hf
    · rename_i A₁ v' hz
      unfold frzO at hz
      cases hx : opd A x with
      | none => simp [hx] at hz
      | some v =>
        simp [hx] at hz
        obtain ⟨S₁, hS₁, hi₁, _⟩ := frz_ok h hx hz
        obtain ⟨S', hS, hi⟩ := frzArgs_ok hi₁ hf
        exact ⟨S', fun b hb => hS b (hS₁ b hb), hi⟩
    · simp at hf
  | (.lend, x) :: r, A, A', S, h, hf => frzArgs_ok (l := r) h hf
  | (.io, x) :: r, A, A', S, h, hf => frzArgs_ok (l := r) h hf

theorem ioOf_own {v : AV} {x : Value} {vs : List AV} {xs : List Value} (h : v.owner = true) : ioOf (v :: vs) (x :: xs) = (v, x) :: ioOf vs xs := by
  cases v <;> first | rfl | (simp [AV.owner] at h)
theorem ioOf_non {v : AV} {x : Value} {vs : List AV} {xs : List Value} (h : v.owner = false) : ioOf (v :: vs) (x :: xs) = ioOf vs xs := by
  cases v <;> first | rfl | (simp [AV.owner] at h)
theorem ioOf_nil_of : ∀ {vs : List AV} {xs : List Value}, (∀ v, v ∈ vs → v.owner = false) → ioOf vs xs = []
  | [], _, _ => rfl
  | _ :: _, [], h => by
    rename_i v vs
    have := h v (List.mem_cons_self ..)
    cases v <;> first | rfl | (simp [AV.owner] at this)
  | _ :: _, _ :: _, h => by rw [ioOf_non (h _ (List.mem_cons_self ..))]; exact ioOf_nil_of (fun v hv => h v (List.mem_cons_of_mem _ hv))
theorem ioOf_append : ∀ {vs ws : List AV} {xs ys : List Value}, xs.length = vs.length → (∀ v, v ∈ ws → v.owner = false) → ioOf (vs ++ ws) (xs ++ ys) = ioOf vs xs
  | [], ws, [], ys, _, h => ioOf_nil_of h
  | v :: vs, ws, x :: xs, ys, hl, h => by
    have ih := ioOf_append (ws := ws) (ys := ys) (vs := vs) (xs := xs) (by simpa using hl) h
    by_cases ho : v.owner = true
    · rw [List.cons_append, List.cons_append, ioOf_own ho, ioOf_own ho, ih]
    · have ho : v.owner = false := by simpa using ho
      rw [List.cons_append, List.cons_append, ioOf_non ho, ioOf_non ho, ih]
  | [], _, _ :: _, _, hl, _ => by simp at hl
  | _ :: _, _, [], _, hl, _ => by simp at hl

/-- An owner, as the callee sees it. -/
def ioRel (u v : AV) : Prop := (∃ e c, u = .ow e c ∧ v = .ow e c) ∨ (∃ l, u = .bx l ∧ v = .bx (l.map norm1)) ∨ (∃ c, u = .ba c ∧ v = .ba c)
theorem norm1_rp {v : AV} {x : Value} (h : RP S C.L w v x) : RP S C.L w (norm1 v) x := by
  cases v with
  | nl e c =>
    show Own S w e c x
    rw [show x = .slice none 0 0 from h.1]
    obtain ⟨cs, hc, _⟩ := nl_ro (S := S) (Z := S) (w := w) h.2
    have hcs : cs = [] := List.eq_nil_of_length_eq_zero (hc.length.trans h.2)
    subst hcs
    exact ⟨[], hc, World.ownsRow_nil w 0 e 1⟩
  | _ => exact h
theorem norm1_own {v : AV} {x : Value} (h : RP S C.L w v x) : ownF (norm1 v) x = ownF v x := by
  cases v with
  | nl e c => rw [show x = .slice none 0 0 from h.1]; rfl
  | _ => rfl
theorem norm1_all : ∀ {l : List AV} {cs : List Value}, All2 (RP S C.L w) l cs → All2 (RP S C.L w) (l.map norm1) cs ∧ ownFs (l.map norm1) cs = ownFs l cs
  | [], [], _ => ⟨trivial, rfl⟩
  | _ :: _, _ :: _, h => ⟨⟨norm1_rp h.1, (norm1_all h.2).1⟩, by simp only [List.map_cons, ownFs]; rw [norm1_own h.1, (norm1_all h.2).2]⟩
theorem ioArg_ok (h : Inv C E.n S A a w) (hL : ∀ b, C.L b → L' b) {x : Operand} {v v' : AV} {s : Nat} (hx : opd A x = some v) (ha : ioArg A (otmp x) v = some (v', s)) :
    RV S L' w (fun _ => undef) v' (a.eval x) ∧ argOK v' = true ∧ v'.owner = true ∧ ∃ u, look s A = some u ∧ ioRel u v' ∧ a.eval x = rho a s ∧ owned w v' (a.eval x) = owned w u (rho a s) := by
  have bx : ∀ (s : Nat) (l : List AV), look s A = some (.bx l) → a.eval x = rho a s → RV S L' w (fun _ => undef) (.bx (l.map norm1)) (a.eval x) ∧ argOK (.bx (l.map norm1)) = true ∧ (AV.bx (l.map norm1)).owner = true ∧ ∃ u, look s A = some u ∧ ioRel u (.bx (l.map norm1)) ∧ a.eval x = rho a s ∧ owned w (.bx (l.map norm1)) (a.eval x) = owned w u (rho a s) := by
    intro s l hl hev
    obtain ⟨b, e, cs, hs, hh, hr⟩ := h.rel s _ hl
    have hs' : rho a s = .pointer (some ⟨b, 0, none⟩) := hs
    obtain ⟨h1, h2⟩ := norm1_all hr
    refine ⟨⟨b, e, cs, hev.trans hs, hh, All2.mono (fun _ _ h => RP.wide hL h) h1⟩, rfl, rfl, _, hl, .inr (.inl ⟨l, rfl, rfl⟩), hev, ?_⟩
    rw [hev, hs']
    simp [owned, rowOf_eq hh, h2]
  have ba : ∀ (s : Nat) (c : Sq), look s A = some (.ba c) → a.eval x = rho a s → RV S L' w (fun _ => undef) (.ba c) (a.eval x) ∧ argOK (.ba c) = true ∧ (AV.ba c).owner = true ∧ ∃ u, look s A = some u ∧ ioRel u (.ba c) ∧ a.eval x = rho a s ∧ owned w (.ba c) (a.eval x) = owned w u (rho a s) := by
    intro s c hl hev
    rw [hev]
    exact ⟨h.rel s _ hl, rfl, rfl, _, hl, .inr (.inr ⟨c, rfl, rfl⟩), rfl, rfl⟩
  have ow : ∀ (s : Nat) (e : TypeId) (c : Sq), look s A = some (.ow e c) → a.eval x = rho a s → RV S L' w (fun _ => undef) (.ow e c) (a.eval x) ∧ argOK (.ow e c) = true ∧ (AV.ow e c).owner = true ∧ ∃ u, look s A = some u ∧ ioRel u (.ow e c) ∧ a.eval x = rho a s ∧ owned w (.ow e c) (a.eval x) = owned w u (rho a s) := by
    intro s e c hl hev
    rw [hev]
    exact ⟨h.rel s _ hl, rfl, rfl, _, hl, .inl ⟨e, c, rfl, rfl⟩, rfl, rfl⟩
  have tmp : ∀ t, otmp x = some t → x = .tmp t := by
    intro t ht
    cases x <;> simp [otmp] at ht
    rw [ht]
  unfold ioArg at ha
  split at ha
  · cases ht : otmp x with
    | none => simp [ht] at ha
    | some t =>
      simp [ht] at ha
      obtain ⟨rfl, rfl⟩ := ha
      have := tmp t ht
      subst this
      exact ow t _ _ hx rfl
  · cases ht : otmp x with
    | none => simp [ht] at ha
    | some t =>
      simp [ht] at ha
      obtain ⟨rfl, rfl⟩ := ha
      have := tmp t ht
      subst this
      exact bx t _ hx rfl
  · cases ht : otmp x with
    | none => simp [ht] at ha
    | some t =>
      simp [ht] at ha
      obtain ⟨rfl, rfl⟩ := ha
      have := tmp t ht
      subst this
      exact ba t _ hx rfl
  · rename_i s'
    split at ha
    · rename_i e c hl
      simp at ha
      obtain ⟨rfl, rfl⟩ := ha
      exact ow s' _ _ hl (eval_opd h hx)
    · simp at ha
  · rename_i s'
    obtain ⟨b, hs, hev⟩ := eval_opd h hx
    split at ha
    · rename_i l hl
      simp at ha
      obtain ⟨rfl, rfl⟩ := ha
      exact bx s' _ hl (hev.trans hs.symm)
    · rename_i c hl
      simp at ha
      obtain ⟨rfl, rfl⟩ := ha
      exact ba s' _ hl (hev.trans hs.symm)
    · simp at ha
  · simp at ha
theorem unnl_ag (hL : ∀ b, C.L b → L' b) : ∀ {l : List AV} {cs : List Value}, All2 (RPs S C.L w) l cs → All2 (RPs S L' w) (l.map unnl1) cs
  | [], [], _ => trivial
  | v :: _, x :: _, h => by
    refine ⟨?_, unnl_ag hL h.2⟩
    cases v with
    | nl e c => exact ⟨rfl, by rw [show x = .slice none 0 0 from h.1.2.1]; exact nl_ro h.1.2.2⟩
    | _ => exact RPs.wide hL h.1
theorem unnl_ok (h : Inv C E.n S A a w) (hL : ∀ b, C.L b → L' b) {x : Operand} {v v' : AV} (hx : opd A x = some v) (hu : unnl v = some v') : RV S L' w (fun _ => undef) v' (a.eval x) ∧ argOK v' = true ∧ v'.owner = false := by
  have hr := eval_opd h hx
  cases v with
  | pv y => simp [unnl] at hu; subst hu; exact ⟨hr, rfl, rfl⟩
  | sl c => simp [unnl] at hu; subst hu; exact ⟨hr, rfl, rfl⟩
  | aa c => simp [unnl] at hu; subst hu; exact ⟨hr, rfl, rfl⟩
  | ag l =>
    simp [unnl] at hu
    subst hu
    obtain ⟨cs, hx, hcs⟩ := hr
    exact ⟨⟨cs, hx, unnl_ag hL hcs⟩, rfl, rfl⟩
  | nl e c =>
    simp [unnl] at hu
    subst hu
    exact ⟨by rw [show a.eval x = .slice none 0 0 from hr.1]; exact nl_ro hr.2, rfl, rfl⟩
  | _ => simp [unnl] at hu

/-- Which slot an argument handed 'io' lives in. -/
def IoAt (A : Fr) (a : Act) (w : World) (s : Nat) (e : AV × Value) : Prop := ∃ u, look s A = some u ∧ ioRel u e.1 ∧ e.2 = rho a s ∧ owned w e.1 e.2 = owned w u (rho a s)
theorem argsOf_ok (h : Inv C E.n S A a w) (hL : ∀ b, C.L b → L' b) : ∀ {l : List (Mode × Operand)} {vs : List AV} {ps ls : List Nat}, argsOf A l = some (vs, ps, ls) → Lent A a w L' ls →
    All2 (RV S L' w (fun _ => undef)) vs (l.map fun e => a.eval e.2) ∧ (∀ v, v ∈ vs → argOK v = true) ∧ All2 (IoAt A a w) ps (ioOf vs (l.map fun e => a.eval e.2))
  | [], vs, ps, ls, ha, _ => by
    simp [argsOf] at ha
    obtain ⟨rfl, rfl, rfl⟩ := ha
    exact ⟨trivial, by simp, trivial⟩
  | (.io, x) :: r, vs, ps, ls, ha, hlent => by
    simp only [argsOf] at ha
    split at ha
    · rename_i v p vs' ps' ls' h1 h2
      simp at ha
      obtain ⟨rfl, rfl, rfl⟩ := ha
      obtain ⟨i1, i2, i3⟩ := argsOf_ok h hL h2 hlent
      cases hx : opd A x with
      | none => simp [hx] at h1
      | some u =>
        simp [hx] at h1
        obtain ⟨j1, j2, j3, u', j4, j5, j6, j7⟩ := ioArg_ok h hL hx h1
        refine ⟨⟨j1, i1⟩, ?_, ?_⟩
        · intro k hk
          rcases List.mem_cons.1 hk with rfl | hk
          · exact j2
          · exact i2 k hk
        · rw [List.map_cons, ioOf_own j3]
          exact ⟨⟨u', j4, j5, j6, j7⟩, i3⟩
    · simp at ha
  | (.frz, x) :: r, vs, ps, ls, ha, hlent => by
    simp only [argsOf] at ha
    split at ha
    · rename_i v vs' ps' ls' h1 h2
      simp at ha
      obtain ⟨rfl, rfl, rfl⟩ := ha
      obtain ⟨i1, i2, i3⟩ := argsOf_ok h hL h2 hlent
      cases hx : opd A x with
      | none => simp [hx] at h1
      | some u =>
        simp [hx] at h1
        obtain ⟨j1, j2, j3⟩ := unnl_ok (L' := L') h hL hx h1
        refine ⟨⟨j1, i1⟩, ?_, ?_⟩
        · intro k hk
          rcases List.mem_cons.1 hk with rfl | hk
          · exact j2
          · exact i2 k hk
        · rw [List.map_cons, ioOf_non j3]
          exact i3
    · simp at ha
  | (.lend, x) :: r, vs, ps, ls, ha, hlent => by
    simp only [argsOf] at ha
    split at ha
    · rename_i u hx
      split at ha
      · rename_i v vs' ps' ls' h1 h2
        simp at ha
        obtain ⟨rfl, rfl, rfl⟩ := ha
        obtain ⟨i1, i2, i3⟩ := argsOf_ok h hL h2 (fun s hs => hlent s (List.mem_append_right _ hs))
        obtain ⟨j1, j2, j3⟩ := lend_ok h hL hx h1 (fun s hs => hlent s (List.mem_append_left _ hs))
        refine ⟨⟨j1, i1⟩, ?_, ?_⟩
        · intro k hk
          rcases List.mem_cons.1 hk with rfl | hk
          · exact j2
          · exact i2 k hk
        · rw [List.map_cons, ioOf_non j3]
          exact i3
      · simp at ha
    · simp at ha
theorem nodupB_ok : ∀ {l : List Nat}, nodupB l = true → l.Nodup
  | [], _ => List.nodup_nil
  | s :: r, h => by
    simp only [nodupB, Bool.and_eq_true, Bool.not_eq_true', List.contains_eq_mem, decide_eq_false_iff_not] at h
    exact List.nodup_cons.2 ⟨h.1, nodupB_ok h.2⟩

/-- The blocks of what is handed 'io'. -/
theorem io_mine {l : List (AV × Value)} {ps : List Nat} (h : All2 (IoAt A a w) ps l) {b : Nat} : b ∈ ownAll w l ↔ mine A a w (fun s => s ∈ ps) b := by
  unfold ownAll
  rw [List.mem_flatMap]
  constructor
  · rintro ⟨e, he, hb⟩
    obtain ⟨i, hi⟩ := List.getElem?_of_mem he
    obtain ⟨s, hs, u, hl, _, _, ho⟩ := h.get' hi
    exact ⟨s, u, List.mem_of_getElem? hs, hl, by rw [← ho]; exact hb⟩
  · rintro ⟨s, u, hs, hl, hb⟩
    obtain ⟨i, hi⟩ := List.getElem?_of_mem hs
    obtain ⟨e, he, u', hl', _, _, ho⟩ := h.get hi
    rw [hl] at hl'
    cases hl'
    exact ⟨e, List.mem_of_getElem? he, by rw [ho]; exact hb⟩
theorem io_nodup (hI : Inv C E.n S A a w) : ∀ {l : List (AV × Value)} {ps : List Nat}, All2 (IoAt A a w) ps l → ps.Nodup → (ownAll w l).Nodup
  | [], [], _, _ => by simp [ownAll]
  | e :: l, s :: ps, h, hn => by
    obtain ⟨u, hl, _, _, ho⟩ := h.1
    rw [List.nodup_cons] at hn
    have hc : ownAll w (e :: l) = owned w e.1 e.2 ++ ownAll w l := by simp [ownAll]
    rw [hc, List.nodup_append]
    refine ⟨by rw [ho]; exact hI.nd s u hl, io_nodup hI h.2 hn.2, fun x hx y hy e => ?_⟩
    subst e
    rw [ho] at hx
    obtain ⟨t, v, ht, hlt, hb⟩ := (io_mine h.2).1 hy
    exact hI.dj s u t v hl hlt (fun e => hn.1 (e ▸ ht)) _ hx hb
theorem io_snd {l : List (AV × Value)} : ∀ {ps : List Nat}, All2 (IoAt A a w) ps l → l.map (·.2) = ps.map (rho a) := by
  induction l with
  | nil => intro ps h; cases ps <;> simp_all [All2]
  | cons e l ih =>
    intro ps h
    cases ps with
    | nil => simp [All2] at h
    | cons s ps =>
      obtain ⟨u, _, _, h2, _⟩ := h.1
      simp [h2, ih h.2]

theorem ioBack_ok : ∀ {ps : List Nat} {outs : List AV} {A A₂ : Fr}, (A.map (·.1)).Nodup → Bxs A → ps.Nodup → ioBack A ps outs = some A₂ →
    (A₂.map (·.1)).Nodup ∧ Bxs A₂ ∧ ∀ k u, look k A₂ = some u → (k ∈ ps → ∃ i : Nat, ps[i]? = some k ∧ outs[i]? = some u ∧ u.owner = true) ∧ (k ∉ ps → look k A = some u ∧ ∀ t, t ∈ u.fref → t ∉ ps)
  | [], [], A, A₂, hk, hb, _, h => by
    simp [ioBack] at h
    subst h
    exact ⟨hk, hb, fun k u hl => ⟨by simp, fun _ => ⟨hl, by simp⟩⟩⟩
  | s :: ps, v :: outs, A, A₂, hk, hb, hn, h => by
    rw [List.nodup_cons] at hn
    have go : ∀ A₁, (A₁.map (·.1)).Nodup → Bxs A₁ → (∀ u, look s A₁ = some u → u = v ∧ v.owner = true) → (∀ k u, k ≠ s → look k A₁ = some u → look k A = some u ∧ s ∉ u.fref) → ioBack A₁ ps outs = some A₂ →
        (A₂.map (·.1)).Nodup ∧ Bxs A₂ ∧ ∀ k u, look k A₂ = some u → (k ∈ s :: ps → ∃ i : Nat, (s :: ps)[i]? = some k ∧ (v :: outs)[i]? = some u ∧ u.owner = true) ∧ (k ∉ s :: ps → look k A = some u ∧ ∀ t, t ∈ u.fref → t ∉ s :: ps) := by
      intro A₁ hk₁ hb₁ h1 h2 h3
      obtain ⟨i1, i2, i3⟩ := ioBack_ok hk₁ hb₁ hn.2 h3
      refine ⟨i1, i2, fun k u hl => ⟨fun hm => ?_, fun hm => ?_⟩⟩
      · rcases List.mem_cons.1 hm with rfl | hm
        · obtain ⟨h4, _⟩ := (i3 k u hl).2 hn.1
          obtain ⟨rfl, hv⟩ := h1 u h4
          exact ⟨0, rfl, rfl, hv⟩
        · obtain ⟨i, h4, h5, h6⟩ := (i3 k u hl).1 hm
          exact ⟨i + 1, by simpa using h4, by simpa using h5, h6⟩
      · have hks : k ≠ s := fun e => hm (e ▸ List.mem_cons_self ..)
        have hkp : k ∉ ps := fun e => hm (List.mem_cons_of_mem _ e)
        obtain ⟨h4, h5⟩ := (i3 k u hl).2 hkp
        obtain ⟨h6, h7⟩ := h2 k u hks h4
        refine ⟨h6, fun t ht hm' => ?_⟩
        rcases List.mem_cons.1 hm' with rfl | hm'
        · exact h7 ht
        · exact h5 t ht hm'
    simp only [ioBack] at h
    split at h
    · rename_i e c e' c' hl
      split at h
      · rename_i he
        simp at he
        have hnb : ∀ k u, look k A = some u → s ∉ u.fref := by
          intro k u hku hs
          obtain ⟨l, hl'⟩ := hb k u s hku hs
          rw [hl] at hl'; cases hl'
        refine go _ (nodup_upd hk s _) (hb.upd (by simp [AV.fref]) (fun l hl' => by rw [hl] at hl'; cases hl')) ?_ ?_ h
        · intro u hu
          rcases look_upd hu with ⟨_, rfl, _⟩ | ⟨h1, _⟩
          · exact ⟨by rw [he], rfl⟩
          · exact (h1 rfl).elim
        · intro k u hks hku
          rcases look_upd hku with ⟨e, _⟩ | ⟨_, h2⟩
          · exact (hks e).elim
          · exact ⟨h2, hnb k u h2⟩
      · simp at h
    · rename_i l l' hl
      have hkk := nodup_upd hk s (.bx l')
      refine go _ (nodup_dropF hkk s) ((hb.upd (by simp [AV.fref]) (fun _ _ => ⟨_, rfl⟩)).dropF hkk s) ?_ ?_ h
      · intro u hu
        rcases look_upd (look_dropF hkk hu) with ⟨_, rfl, _⟩ | ⟨h1, _⟩
        · exact ⟨rfl, rfl⟩
        · exact (h1 rfl).elim
      · intro k u hks hku
        have hnf := look_dropF_fref hkk hku
        rcases look_upd (look_dropF hkk hku) with ⟨e, _⟩ | ⟨_, h2⟩
        · exact (hks e).elim
        · exact ⟨h2, hnf⟩
    · rename_i c c' hl
      have hnb : ∀ k u, look k A = some u → s ∉ u.fref := by
        intro k u hku hs
        obtain ⟨l, hl'⟩ := hb k u s hku hs
        rw [hl] at hl'; cases hl'
      refine go _ (nodup_upd hk s _) (hb.upd (by simp [AV.fref]) (fun l hl' => by rw [hl] at hl'; cases hl')) ?_ ?_ h
      · intro u hu
        rcases look_upd hu with ⟨_, rfl, _⟩ | ⟨h1, _⟩
        · exact ⟨rfl, rfl⟩
        · exact (h1 rfl).elim
      · intro k u hks hku
        rcases look_upd hku with ⟨e, _⟩ | ⟨_, h2⟩
        · exact (hks e).elim
        · exact ⟨h2, hnb k u h2⟩
    · refine go _ (nodup_dropR hk s) (hb.dropR hk s) ?_ ?_ h
      · intro u hu
        exact ((look_dropR hk hu).2.1 rfl).elim
      · intro k u hks hku
        obtain ⟨h1, _, h3⟩ := look_dropR hk hku
        exact ⟨h1, fun hs => h3 (fref_ref hs)⟩
    · simp at h
  | [], _ :: _, _, _, _, _, _, h => by simp [ioBack] at h
  | _ :: _, [], _, _, _, _, _, h => by simp [ioBack] at h
end
end Go.Gx

/-
  Gx23: the call keeps the invariant.
  Conditions: none; laws for the machine's soundness.
-/
namespace Go.Gx
open Go

section
variable {P : Program} {C : Ctx} {E : Env} {S S' L' : Nat → Prop} {A : Fr} {a : Act} {w w' : World} {K : Fr → Prop} {next : Act → World → Prop} {Q : Exit → Act → World → Prop} {o : Oper}

theorem Glob.at (hE : EnvOK P E C) (h : Inv C E.n S A a w) : Glob E.gl w S := by
  intro g c hg
  obtain ⟨hS, e, fz, cs, hh, hc⟩ := hE.gl g c hg
  have hd := hE.dis g hS
  exact ⟨h.s₀ g hS, e, fz, cs, (h.ext.block g hd.2 hd.1).trans hh, hc.keep (fun _ hb => hb.elim) (fun _ hb => hb.elim)⟩
theorem clean_ref {v : AV} (h : v.clean = true) : v.ref = [] ∧ v.fref = [] := by
  cases v <;> first | exact ⟨rfl, rfl⟩ | (simp [AV.clean] at h; done) | exact ⟨by simpa [AV.clean, AV.ref] using h, rfl⟩
theorem owner_ref {v : AV} (h : v.owner = true) : v.ref = [] ∧ v.fref = [] := by
  cases v <;> first | exact ⟨rfl, rfl⟩ | (simp [AV.owner] at h)
theorem capsOf_ok (h : Inv C E.n S A a w) (hL : ∀ b, C.L b → L' b) {f : FuncId} {capt : Option Nat} {extra : List AV} {ls : List Nat} (hc : capsOf A f capt = some (extra, ls)) (hlent : Lent A a w L' ls) :
    ∃ cs, All2 (RV S L' w (fun _ => undef)) extra cs ∧ (∀ v, v ∈ extra → argOK v = true ∧ v.owner = false) ∧ (capt = none → cs = []) ∧ (∀ t, capt = some t → rho a t = .func (.func f) #[] (List.toArray cs)) := by
  cases capt with
  | none =>
    simp [capsOf] at hc
    obtain ⟨rfl, rfl⟩ := hc
    exact ⟨[], trivial, by simp, fun _ => rfl, by simp⟩
  | some t =>
    simp only [capsOf] at hc
    split at hc
    · rename_i g caps hl
      split at hc
      · rename_i hg
        simp at hg
        subst hg
        cases hla : lend.lendAll A caps with
        | none => simp [hla] at hc
        | some caps' =>
          simp [hla] at hc
          obtain ⟨rfl, rfl⟩ := hc
          obtain ⟨cs, hx, hcs⟩ := h.rel t _ hl
          obtain ⟨_, _, i3, i4⟩ := lendAll_ok h hL hcs hla hlent
          exact ⟨cs, i3, i4, by simp, fun t' ht => by cases ht; exact hx⟩
      · simp at hc
    · simp at hc
theorem flat_disj {α : Type} {f : α → List Nat} : ∀ {l : List α} {i j : Nat} {x y : α}, (l.flatMap f).Nodup → l[i]? = some x → l[j]? = some y → i ≠ j → ∀ b, b ∈ f x → b ∉ f y
  | [], _, _, _, _, _, h, _, _ => by simp at h
  | z :: l, 0, 0, _, _, _, _, _, h => (h rfl).elim
  | z :: l, 0, j + 1, x, y, hn, hx, hy, _ => by
    simp at hx hy
    subst hx
    rw [List.flatMap_cons, List.nodup_append] at hn
    exact fun b hb hb' => hn.2.2 b hb b (List.mem_flatMap.2 ⟨y, List.mem_of_getElem? hy, hb'⟩) rfl
  | z :: l, i + 1, 0, x, y, hn, hx, hy, _ => by
    simp at hx hy
    subst hy
    rw [List.flatMap_cons, List.nodup_append] at hn
    exact fun b hb hb' => hn.2.2 b hb' b (List.mem_flatMap.2 ⟨x, List.mem_of_getElem? hx, hb⟩) rfl
  | z :: l, i + 1, j + 1, x, y, hn, hx, hy, hne => by
    simp at hx hy
    rw [List.flatMap_cons, List.nodup_append] at hn
    exact flat_disj hn.2.1 hx hy (by omega)
theorem flat_one {α : Type} {f : α → List Nat} : ∀ {l : List α} {i : Nat} {x : α}, (l.flatMap f).Nodup → l[i]? = some x → (f x).Nodup
  | [], _, _, _, h => by simp at h
  | z :: l, 0, x, hn, hx => by
    simp at hx
    subst hx
    rw [List.flatMap_cons, List.nodup_append] at hn
    exact hn.1
  | z :: l, i + 1, x, hn, hx => by
    simp at hx
    rw [List.flatMap_cons, List.nodup_append] at hn
    exact flat_one hn.2.1 hx

theorem call_back {A₁ A₂ : Fr} {S₁ L₁ S₂ : Nat → Prop} {ps : List Nat} {vs outs : List AV} {xs : List Value} {res : AV} {x : Value} {dst : Option Nat} (h : Inv C E.n S₁ A₁ a w) (hp : ps.Nodup) (hl : All2 (IoAt A₁ a w) ps (ioOf vs xs))
    (hg : Gives S₁ L₁ vs xs w w' res outs x S₂) (hb : ioBack A₁ ps outs = some A₂) (hK : fin E.n dst A₂ res K) (hn : Nx C E.n S₁ K next) : next (a.put dst x) w' := by
  obtain ⟨b1, b2, b3⟩ := ioBack_ok h.keys h.bxs hp hb
  have hsnd := io_snd hl
  have hro := hg.routs
  rw [hsnd] at hro
  have hnd := hg.nd
  rw [hsnd] at hnd
  have hap := hg.apart
  rw [hsnd] at hap
  have hmine : ∀ b, b ∈ ownAll w (ioOf vs xs) ↔ mine A₁ a w (fun s => s ∈ ps) b := fun b => io_mine hl
  obtain ⟨hrr, hrf⟩ := clean_ref hg.clean
  -- what came back in a slot
  have out : ∀ (i : Nat) (k : Nat) (u : AV), ps[i]? = some k → outs[i]? = some u → RV S₂ (fun _ => False) w' (fun _ => undef) u (rho a k) ∧ (outs.zip (ps.map (rho a)))[i]? = some (u, rho a k) := by
    intro i k u h1 h2
    obtain ⟨y, hy, hr⟩ := hro.get h2
    have : y = rho a k := by simp [h1] at hy; exact hy.symm
    subst this
    exact ⟨hr, by rw [List.getElem?_zip_eq_some]; exact ⟨h2, hy⟩⟩
  have hnd2 : (ownAll w' (outs.zip (ps.map (rho a)))).Nodup := (List.nodup_append.1 hnd).2.1
  have hin : ∀ (i : Nat) (k : Nat) (u : AV), ps[i]? = some k → outs[i]? = some u → ∀ b, b ∈ owned w' u (rho a k) → b ∈ ownAll w' (outs.zip (ps.map (rho a))) :=
    fun i k u h1 h2 b hb => List.mem_flatMap.2 ⟨(u, rho a k), List.mem_of_getElem? (out i k u h1 h2).2, hb⟩
  have step : ∀ (A₃ : Fr) (a' : Act) (D : Nat → Prop), a'.tmps.size = E.n.hi → (∀ i, i < E.n.lo → rho a' i = rho a i) → a'.defers = a.defers → (A₃.map (·.1)).Nodup → Bxs A₃ →
      (∀ k, ¬ D k → rho a' k = rho a k) →
      (∀ k u, look k A₃ = some u → (D k ∧ u = res ∧ rho a' k = x) ∨ (¬ D k ∧ look k A₂ = some u ∧ ∀ t, t ∈ u.ref → ¬ D t)) →
      (∀ k k' u u', look k A₃ = some u → look k' A₃ = some u' → D k → D k' → k = k') →
      Inv C E.n S₂ A₃ a' w' := by
    intro A₃ a' D h1 h1' h2 h3 h4 h5 h6 h7
    refine h.step (fun b => b ∈ ownAll w (ioOf vs xs)) (fun k => D k ∨ k ∈ ps) hg.mod (fun b hb => ?_) h1 h1' h2 h3 h4 hg.s₀ ?_ ?_ ?_ ?_
    · obtain ⟨s, v, hs, hr⟩ := (hmine b).1 hb
      exact ⟨s, v, .inr hs, hr⟩
    · intro b hb
      rcases hg.sg b hb with h8 | h8 | h8
      · exact .inl h8
      · obtain ⟨s, v, hs, hr⟩ := (hmine b).1 h8
        exact .inr ⟨.inl ⟨s, v, .inr hs, hr⟩, hg.lt b hb⟩
      · exact .inr ⟨.inr h8, hg.lt b hb⟩
    · intro k u hgk hk
      rcases h6 k u hk with ⟨hD, _⟩ | ⟨hD, h8, h9⟩
      · exact (hgk (.inl hD)).elim
      · obtain ⟨h10, h11⟩ := (b3 k u h8).2 (fun hm => hgk (.inr hm))
        refine ⟨h10, h5 k hD, fun t ht => h5 t (h9 t ht), fun t ht hgt => ?_⟩
        rcases hgt with hgt | hgt
        · exact (h9 t (fref_ref ht) hgt).elim
        · exact (h11 t ht hgt).elim
    · intro k u hgk hk
      have got : ∀ b, b ∈ owned w' res x ++ ownAll w' (outs.zip (ps.map (rho a))) → ¬ S₂ b ∧ (mine A₁ a w (fun k => D k ∨ k ∈ ps) b ∨ w.heap.size ≤ b) := by
        intro b hb
        obtain ⟨h8, h9⟩ := hap b hb
        refine ⟨h8, h9.imp (fun h9 => ?_) id⟩
        obtain ⟨s, v, hs, hr⟩ := (hmine b).1 h9
        exact ⟨s, v, .inr hs, hr⟩
      rcases h6 k u hk with ⟨hD, rfl, hx⟩ | ⟨hD, h8, h9⟩
      · rw [hx]
        exact ⟨RV.wide (fun _ hb => hb.elim) hg.rres hrr, (List.nodup_append.1 hnd).1, fun b hb => got b (List.mem_append_left _ hb)⟩
      · have hps : k ∈ ps := hgk.resolve_left hD
        obtain ⟨i, h10, h11, h12⟩ := (b3 k u h8).1 hps
        rw [h5 k hD]
        exact ⟨RV.wide (fun _ hb => hb.elim) (out i k u h10 h11).1 (owner_ref h12).1, flat_one (f := fun e : AV × Value => owned w' e.1 e.2) hnd2 (out i k u h10 h11).2, fun b hb => got b (List.mem_append_right _ (hin i k u h10 h11 b hb))⟩
    · intro k u t v hgk hgt hne hk ht b hb hb'
      rcases h6 k u hk with ⟨hD, rfl, hx⟩ | ⟨hD, h8, h9⟩
      · rw [hx] at hb
        rcases h6 t v ht with ⟨hD', rfl, hx'⟩ | ⟨hD', h8', h9'⟩
        · exact hne (h7 k t _ _ hk ht hD hD')
        · obtain ⟨i, h10, h11, h12⟩ := (b3 t v h8').1 (hgt.resolve_left hD')
          rw [h5 t hD'] at hb'
          exact (List.nodup_append.1 hnd).2.2 b hb b (hin i t v h10 h11 b hb') rfl
      · obtain ⟨i, h10, h11, h12⟩ := (b3 k u h8).1 (hgk.resolve_left hD)
        rw [h5 k hD] at hb
        rcases h6 t v ht with ⟨hD', rfl, hx'⟩ | ⟨hD', h8', h9'⟩
        · rw [hx'] at hb'
          exact (List.nodup_append.1 hnd).2.2 b hb' b (hin i k u h10 h11 b hb) rfl
        · obtain ⟨j, h13, h14, h15⟩ := (b3 t v h8').1 (hgt.resolve_left hD')
          rw [h5 t hD'] at hb'
          have hij : i ≠ j := by rintro rfl; rw [h10] at h13; cases h13; exact hne rfl
          exact flat_disj (f := fun e : AV × Value => owned w' e.1 e.2) hnd2 (out i k u h10 h11).2 (out j t v h13 h14).2 hij b hb hb'
  cases dst with
  | none =>
    exact hn _ _ _ S₂ (step A₂ a (fun _ => False) h.size (fun _ _ => rfl) rfl b1 b2 (fun _ _ => rfl) (fun k u hk => .inr ⟨fun hb => hb, hk, fun _ _ hb => hb⟩) (fun _ _ _ _ _ _ hb => hb.elim)) hg.s₀ hK
  | some d =>
    simp only [fin] at hK
    split at hK
    · rename_i hd
      split at hK
      · exact hK.elim
      · split at hK
        · have hd' : d < a.tmps.size := by rw [h.size]; exact (Rg.has_ok hd).2
          refine hn _ _ _ S₂ (step (setd d res A₂) (a.put (some d) x) (fun k => k = d) (by simp [h.size]) (fun i hi => rho_put_ne (by have := (Rg.has_ok hd).1; omega)) (by simp) (nodup_setd b1 _ _) (b2.setd b1 (by rw [hrr]; simp) (by rw [hrf]; simp)) (fun k hk => rho_put_ne hk) ?_ ?_) hg.s₀ hK
          · intro k u hk
            rcases look_setd b1 hk with ⟨rfl, rfl⟩ | ⟨h1, h2, h3⟩
            · exact .inl ⟨rfl, rfl, by rw [rho_put hd']; simp⟩
            · exact .inr ⟨h1, h2, fun t ht e => h3 (e ▸ ht)⟩
          · intro k k' u u' _ _ hk hk'
            exact hk.trans hk'.symm
        · exact hK.elim
    · exact hK.elim

theorem call_ok {f : FuncId} {args : List Operand} {capt : Option Nat} (hE : EnvOK P E C) (h : Inv C E.n S A a w) (hK : acall E A o.dst f args capt K) (hn : Nx C E.n S K next)
    (hexec : ∀ cs : List Value, (capt = none → cs = []) → (∀ t, capt = some t → rho a t = .func (.func f) #[] cs.toArray) → (execOp a.eval o).run P w = .ok (.enter f (args.map a.eval ++ cs).toArray) w) : o.wp P a w next Q := by
  unfold acall at hK
  split at hK
  · exact hK.elim
  · rename_i sp hsp
    split at hK
    · rename_i hlen
      simp only [beq_iff_eq] at hlen
      split at hK
      · exact hK.elim
      · rename_i A₁ hfr
        split at hK
        · rename_i vs ps ls extra ls' hargs hcaps
          split at hK
          · rename_i hdis
            simp only [Bool.and_eq_true] at hdis
            obtain ⟨hps, hdis⟩ := hdis
            have hps := nodupB_ok hps
            obtain ⟨S₁, hS₁, hi⟩ := frzArgs_ok h hfr
            let L₁ : Nat → Prop := fun b => C.L b ∨ ∃ s u, look s A₁ = some u ∧ s ∉ ps ∧ b ∈ owned w u (rho a s)
            have hL : ∀ b, C.L b → L₁ b := fun _ hb => .inl hb
            have hlent : Lent A₁ a w L₁ (ls ++ ls') := by
              intro s hs u hu b hb
              have := List.all_eq_true.1 hdis s hs
              exact .inr ⟨s, u, hu, by simpa using this, hb⟩
            obtain ⟨i1, i2, i3⟩ := argsOf_ok hi hL hargs (fun s hs => hlent s (List.mem_append_left _ hs))
            obtain ⟨cs, j1, j2, j3, j4⟩ := capsOf_ok hi hL hcaps (fun s hs => hlent s (List.mem_append_right _ hs))
            have hxs : (sp.modes.zip args).map (fun e => a.eval e.2) = args.map a.eval := by
              have h1 : (sp.modes.zip args).map (fun e => a.eval e.2) = ((sp.modes.zip args).map (·.2)).map a.eval := by rw [List.map_map]; rfl
              rw [h1, List.map_snd_zip (by omega)]
            rw [hxs] at i1 i3
            have hio : ioOf (vs ++ extra) (args.map a.eval ++ cs) = ioOf vs (args.map a.eval) := ioOf_append i1.length (fun v hv => (j2 v hv).2)
            have hargsok : ArgsOK S₁ L₁ (vs ++ extra) (args.map a.eval ++ cs) w := by
              refine ⟨?_, i1.append j1, ?_, ?_, ?_⟩
              · intro v hv
                rcases List.mem_append.1 hv with hv | hv
                · exact i2 v hv
                · exact (j2 v hv).1
              · rw [hio]; exact io_nodup hi i3 hps
              · intro b hb
                rw [hio] at hb
                have hm := (io_mine i3).1 hb
                have ha := hi.mine_apart hm
                refine ⟨ha.1, ?_⟩
                rintro (h1 | ⟨s, u, hu, hs, hb'⟩)
                · exact ha.2.1 h1
                · exact hi.mine_not hm hs hu hb'
              · intro b hb
                rcases hb with hb | hb | ⟨s, u, hu, hs, hb⟩
                · exact hi.lt b (.inl hb)
                · exact hi.lt b (.inr hb)
                · exact owned_lt (hi.rel s u hu) b hb
            have hcall := (hE.orc f sp hsp).1 S₁ L₁ _ _ w _ (Glob.at hE hi) hargsok hK
            unfold Oper.wp
            rw [hexec cs j3 j4, Oper.upon_enter]
            refine Calls.mono hcall ?_
            rintro e w' ⟨res, outs, x, S₂, rfl, hback, hgives⟩
            simp only
            have hg : Gives S₁ L₁ (vs ++ extra) (args.map a.eval ++ cs) w w' res outs x S₂ := hgives
            split at hback
            · rename_i A₂ hb
              exact call_back hi hps (by rw [hio]; exact i3) hg hb hback (hn.mono hS₁)
            · exact hback.elim
          · exact hK.elim
        · exact hK.elim
    · exact hK.elim
theorem frzArgs_none : ∀ {l : List (Mode × Operand)} {A : Fr}, l.all (fun e => match e.1 with | .frz => false | _ => true) = true → frzArgs A l = some A
  | [], _, _ => rfl
  | (.io, _) :: r, _, h => frzArgs_none (l := r) (by simpa using h)
  | (.lend, _) :: r, _, h => frzArgs_none (l := r) (by simpa using h)
  | (.frz, _) :: r, _, h => by simp at h
theorem notIo_ok {A A' : Fr} {s : Nat} {l : List (Mode × Operand)} {vs : List AV} {ps ls : List Nat} (h : notIo A s l = true) (hf : frzArgs A l = some A') (ha : argsOf A' l = some (vs, ps, ls)) : A' = A ∧ s ∉ ps := by
  unfold notIo at h
  rw [Bool.and_eq_true] at h
  rw [frzArgs_none h.1] at hf
  cases hf
  refine ⟨rfl, ?_⟩
  have h2 := h.2
  rw [ha] at h2
  simpa using h2
/-- The same; what a slot owns that is not handed on is as it was. -/
theorem call_okF {f : FuncId} {args : List Operand} {capt : Option Nat} {b₀ s₀ : Nat} {u₀ : AV} (hE : EnvOK P E C) (h : Inv C E.n S A a w) (hK : acall E A o.dst f args capt K)
    (hs₀ : look s₀ A = some u₀) (hb₀ : b₀ ∈ owned w u₀ (rho a s₀)) (hps₀ : ∀ sp, look f E.orc = some sp → notIo A s₀ (sp.modes.zip args) = true)
    (hn : ∀ A' a' w' S', Inv C E.n S' A' a' w' → (∀ b, S b → S' b) → K A' → w'.heap[b₀]? = w.heap[b₀]? → (∀ k, o.dst ≠ some k → rho a' k = rho a k) → next a' w')
    (hexec : ∀ cs : List Value, (capt = none → cs = []) → (∀ t, capt = some t → rho a t = .func (.func f) #[] cs.toArray) → (execOp a.eval o).run P w = .ok (.enter f (args.map a.eval ++ cs).toArray) w) : o.wp P a w next Q := by
  unfold acall at hK
  split at hK
  · exact hK.elim
  · rename_i sp hsp
    split at hK
    · rename_i hlen
      simp only [beq_iff_eq] at hlen
      split at hK
      · exact hK.elim
      · rename_i A₁ hfr
        split at hK
        · rename_i vs ps ls extra ls' hargs hcaps
          split at hK
          · rename_i hdis
            simp only [Bool.and_eq_true] at hdis
            obtain ⟨hps, hdis⟩ := hdis
            have hps := nodupB_ok hps
            obtain ⟨S₁, hS₁, hi⟩ := frzArgs_ok h hfr
            let L₁ : Nat → Prop := fun b => C.L b ∨ ∃ s u, look s A₁ = some u ∧ s ∉ ps ∧ b ∈ owned w u (rho a s)
            have hL : ∀ b, C.L b → L₁ b := fun _ hb => .inl hb
            have hlent : Lent A₁ a w L₁ (ls ++ ls') := by
              intro s hs u hu b hb
              have := List.all_eq_true.1 hdis s hs
              exact .inr ⟨s, u, hu, by simpa using this, hb⟩
            obtain ⟨i1, i2, i3⟩ := argsOf_ok hi hL hargs (fun s hs => hlent s (List.mem_append_left _ hs))
            obtain ⟨cs, j1, j2, j3, j4⟩ := capsOf_ok hi hL hcaps (fun s hs => hlent s (List.mem_append_right _ hs))
            have hxs : (sp.modes.zip args).map (fun e => a.eval e.2) = args.map a.eval := by
              have h1 : (sp.modes.zip args).map (fun e => a.eval e.2) = ((sp.modes.zip args).map (·.2)).map a.eval := by rw [List.map_map]; rfl
              rw [h1, List.map_snd_zip (by omega)]
            rw [hxs] at i1 i3
            have hio : ioOf (vs ++ extra) (args.map a.eval ++ cs) = ioOf vs (args.map a.eval) := ioOf_append i1.length (fun v hv => (j2 v hv).2)
            have hargsok : ArgsOK S₁ L₁ (vs ++ extra) (args.map a.eval ++ cs) w := by
              refine ⟨?_, i1.append j1, ?_, ?_, ?_⟩
              · intro v hv
                rcases List.mem_append.1 hv with hv | hv
                · exact i2 v hv
                · exact (j2 v hv).1
              · rw [hio]; exact io_nodup hi i3 hps
              · intro b hb
                rw [hio] at hb
                have hm := (io_mine i3).1 hb
                have ha := hi.mine_apart hm
                refine ⟨ha.1, ?_⟩
                rintro (h1 | ⟨s, u, hu, hs, hb'⟩)
                · exact ha.2.1 h1
                · exact hi.mine_not hm hs hu hb'
              · intro b hb
                rcases hb with hb | hb | ⟨s, u, hu, hs, hb⟩
                · exact hi.lt b (.inl hb)
                · exact hi.lt b (.inr hb)
                · exact owned_lt (hi.rel s u hu) b hb
            have hcall := (hE.orc f sp hsp).1 S₁ L₁ _ _ w _ (Glob.at hE hi) hargsok hK
            unfold Oper.wp
            rw [hexec cs j3 j4, Oper.upon_enter]
            refine Calls.mono hcall ?_
            rintro e w' ⟨res, outs, x, S₂, rfl, hback, hgives⟩
            simp only
            have hg : Gives S₁ L₁ (vs ++ extra) (args.map a.eval ++ cs) w w' res outs x S₂ := hgives
            split at hback
            · rename_i A₂ hb
              have hni := hps₀ sp hsp
              obtain ⟨rfl, hsps⟩ := notIo_ok hni hfr hargs
              refine call_back (next := fun a' w' => w'.heap[b₀]? = w.heap[b₀]? → (∀ k, o.dst ≠ some k → rho a' k = rho a k) → next a' w') hi hps (by rw [hio]; exact i3) hg hb hback (fun A' a' w' S' k1 k2 k3 k4 k5 => hn A' a' w' S' k1 (fun b hb => k2 b (hS₁ b hb)) k3 k4 k5) ?_ ?_
              · refine hg.mod.block b₀ (owned_lt (h.rel s₀ u₀ hs₀) b₀ hb₀) (fun hm => ?_)
                rw [hio] at hm
                exact hi.mine_not ((io_mine i3).1 hm) hsps hs₀ hb₀
              · intro k hk
                cases hd : o.dst with
                | none => rfl
                | some d => exact rho_put_ne (fun e => hk (by rw [hd, e]))
            · exact hback.elim
          · exact hK.elim
        · exact hK.elim
    · exact hK.elim
end
end Go.Gx

/-
  Gx24: every operation keeps the invariant.
  Conditions: none; the machine's soundness, operation by operation.
-/
namespace Go.Gx
open Go

section
variable {P : Program} {C : Ctx} {E : Env} {S S' : Nat → Prop} {A : Fr} {a : Act} {w w' : World} {K : Fr → Prop} {next : Act → World → Prop} {Q : Exit → Act → World → Prop} {o : Oper}

theorem acaps_ok (h : Inv C E.n S A a w) : ∀ {l : List Operand} {caps : List AV}, acaps A l = some caps → All2 (RC S C.L w (rho a)) caps (l.map a.eval)
  | [], caps, hc => by
    simp [acaps] at hc
    subst hc
    trivial
  | x :: r, caps, hc => by
    simp only [acaps] at hc
    have box : ∀ (r' : List AV) (u : AV), opd A x = some u → acaps A r = some r' → ((∃ l, u = .bx l) ∨ ∃ c, u = .ba c) → ((otmp x).map fun t => AV.pt t 0 :: r') = some caps → All2 (RC S C.L w (rho a)) caps ((x :: r).map a.eval) := by
      intro r' u hx hr hu hm
      cases x with
      | tmp t =>
        simp [otmp] at hm
        subst hm
        have hrel := h.rel t _ hx
        rcases hu with ⟨l, rfl⟩ | ⟨c, rfl⟩
        · obtain ⟨b, e, cs, hb, _⟩ := hrel
          exact ⟨⟨b, hb, hb⟩, acaps_ok h hr⟩
        · obtain ⟨b, e, cs, hb, _⟩ := hrel
          exact ⟨⟨b, hb, hb⟩, acaps_ok h hr⟩
      | _ => simp [otmp] at hm
    split at hc
    · rename_i v r' hx hr
      simp at hc
      subst hc
      exact ⟨⟨rfl, eval_opd h hx⟩, acaps_ok h hr⟩
    · rename_i c r' hx hr
      simp at hc
      subst hc
      exact ⟨⟨rfl, eval_opd h hx⟩, acaps_ok h hr⟩
    · rename_i l r' hx hr
      exact box r' _ hx hr (.inl ⟨l, rfl⟩) hc
    · rename_i c r' hx hr
      exact box r' _ hx hr (.inr ⟨c, rfl⟩) hc
    · rename_i s off r' hx hr
      simp at hc
      subst hc
      exact ⟨eval_opd h hx, acaps_ok h hr⟩
    · simp at hc
theorem ex_call {ρ : Operand → Value} {c : Call} {fo : Operand} {f : FuncId} {cs : List Value} (hop : o.op = .call c) (hc : c.callee = .value fo) (hρ : ρ fo = .func (.func f) #[] cs.toArray)
    (hf : P.funcs[f]?.any (fun fn => fn.body.isSome && fn.name != "runtime.NumGoroutine") = true) : (execOp ρ o).run P w = .ok (.enter f (c.args.toList.map ρ ++ cs).toArray) w := by
  cases hfn : P.funcs[f]? with
  | none => simp [hfn] at hf
  | some fn =>
    simp [hfn] at hf
    obtain ⟨h1, h2⟩ := hf
    unfold execOp
    rw [hop]
    have e : (c.args.map ρ ++ cs.toArray) = (c.args.toList.map ρ ++ cs).toArray := by
      apply Array.ext'
      simp
    simp [resolve, hc, hρ, Deferred.ofValue, invoke, callFunc, hfn, h2, e]
    intro hb
    rw [hb] at h1
    simp at h1
theorem arr_lit {α : Type} {xs : Array α} {l : List α} (h : xs.toList = l) : xs = l.toArray := by
  apply Array.ext'; simpa using h
def stepK (P : Program) (o : Oper) (a : Act) (w : World) (next : Act → World → Prop) : Prop :=
  match opClass o.op with
  | .pure => PWP P o a w next
  | .read => RWP P o a w next
  | .other => o.wp P a w next (fun _ _ _ => False)
theorem stepK_pure (hc : opClass o.op = .pure) (h : PWP P o a w next) : stepK P o a w next := by unfold stepK; rw [hc]; exact h
theorem stepK_read (hc : opClass o.op = .read) (h : RWP P o a w next) : stepK P o a w next := by unfold stepK; rw [hc]; exact h
theorem stepK_other (hc : opClass o.op = .other) (h : o.wp P a w next (fun _ _ _ => False)) : stepK P o a w next := by unfold stepK; rw [hc]; exact h
theorem len'_ok {T : TypeId} {x : Operand} (hop : o.op = .call { callee := .builtin .len, args := #[x], argTypes := #[T] }) (hte : teOK P E.te = true) (h : Inv C E.n S A a w) (hK : alen' E A o.dst T x K) (hn : Nx C E.n S K next) : PWP P o a w next := by
  unfold alen' at hK
  split at hK
  · rename_i e m hT
    split at hK
    · rename_i n l hx
      obtain ⟨hu, _⟩ := te_sls hte hT
      obtain ⟨b, e', fz, cs, hv, _⟩ := eval_opd h hx
      refine pwp_value ?_ (fin_ok h hK ⟨rfl, rfl⟩ rfl hn)
      intro w'
      rw [ex_builtin hop]
      simp [builtin, Builtin.len_, hv, run_underlying hu, goInt]
    · exact hK.elim
  · rename_i e c hT
    split at hK
    · rename_i hx
      obtain ⟨hu, _⟩ := te_slice hte hT
      refine pwp_value ?_ (fin_ok h hK ⟨rfl, rfl⟩ rfl hn)
      intro w'
      rw [ex_builtin hop]
      simp [builtin, Builtin.len_, eval_pv h hx, run_underlying hu, goInt]
    · exact len_ok hop hte h hK hn
  · exact len_ok hop hte h hK hn
theorem run_indexAt_sls {T e : TypeId} {j : TypeInfo} {b off len cap : Nat} {k : IntKind} {i : Int} (hu : P.underlying T = some (.slice e)) (hj : P.info? e = some j) (h0 : 0 ≤ i) (hi : i < len) :
    (Instr.indexAt T (.slice (some ⟨b, off, none⟩) len cap) (.int k i)).run P w = .ok (.pointer (some ⟨b, off + i.toNat * j.size, none⟩)) w := by
  simp [Instr.indexAt, run_underlying hu, asIntOf, sizeOf_run hj, h0, hi, Addr.add_lit]
theorem indexAddr'_ok {T : TypeId} {x i : Operand} (hop : o.op = .indexAddr T x i) (hte : teOK P E.te = true) (h : Inv C E.n S A a w) (hK : aindexAddr' E A o.dst T x i K) (hn : Nx C E.n S K next) : PWP P o a w next := by
  unfold aindexAddr' at hK
  split at hK
  · rename_i e m hT
    split at hK
    · rename_i k n len l hi hx
      obtain ⟨hu, _, j, z, hj, hj1, _⟩ := te_sls hte hT
      obtain ⟨b, e', fz, cs, hv, hb, hh, hr⟩ := eval_opd h hx
      obtain ⟨h0, hlt, hK⟩ := hK
      refine pwp_value (x := .pointer (some ⟨b, 0 + n.toNat * m, none⟩)) ?_ (fin_ok h hK ?_ (owned_non rfl _ _) hn)
      · intro w'
        rw [ex_indexAddr hop, hv, eval_pv h hi, Sem.run_bind, run_indexAt_sls hu hj h0 hlt, hj1]; rfl
      · exact ⟨b, e', fz, cs, by simp, hb, hh, hr⟩
    · exact hK.elim
  · exact indexAddr_ok hop hte h hK hn
theorem fill_dense_m {m : Nat} : ∀ (xs : List Value) (dss : List (List Value)) (L : List Value) (k : Nat), xs.map Value.cells = dss.map List.toArray → (∀ ds, ds ∈ dss → ds.length = m) → (k + xs.length) * m ≤ L.length →
    Instr.fill (fun i => some (i * m, m)) L.toArray ((List.range' k xs.length).zip xs) = some (L.take (k * m) ++ dss.flatten ++ L.drop ((k + xs.length) * m)).toArray
  | [], [], L, k, _, _, _ => by simp [Instr.fill]
  | [], _ :: _, _, _, h, _, _ => by simp at h
  | _ :: _, [], _, _, h, _, _ => by simp at h
  | x :: xs, ds :: dss, L, k, hx, hm, hl => by
    simp only [List.map_cons, List.cons.injEq] at hx
    have hd : ds.length = m := hm ds (List.mem_cons_self ..)
    have hkm : (k + (xs.length + 1)) * m = k * m + m + xs.length * m := by rw [Nat.add_mul, Nat.add_mul]; omega
    have hk1 : (k + 1) * m = k * m + m := by rw [Nat.add_mul]; omega
    have hk2 : (k + 1 + xs.length) * m = k * m + m + xs.length * m := by rw [Nat.add_mul, hk1]
    simp only [List.length_cons, List.range'_succ, List.zip_cons_cons] at hl ⊢
    rw [hkm] at hl
    rw [fill_step (off := k * m) (ds := ds) (by rw [hd]) hx.1 (by omega), hd]
    have := fill_dense_m xs dss (L.take (k * m) ++ ds ++ L.drop (k * m + m)) (k + 1) hx.2 (fun y hy => hm y (List.mem_cons_of_mem _ hy)) (by rw [hk2]; simp; omega)
    rw [this, hk1, hk2, hkm]
    congr 2
    have h1 : (L.take (k * m) ++ ds ++ L.drop (k * m + m)).take (k * m + m) = L.take (k * m) ++ ds := by
      rw [List.take_append_of_le_length (by simp; omega), List.take_of_length_le (by simp; omega)]
    have h2 : (L.take (k * m) ++ ds ++ L.drop (k * m + m)).drop (k * m + m + xs.length * m) = L.drop (k * m + m + xs.length * m) := by
      rw [List.drop_append, List.drop_of_length_le (by simp; omega)]
      simp only [List.nil_append, List.drop_drop]
      congr 1
      simp
      omega
    rw [h1, h2]
    simp
theorem agParts_ok (h : Inv C E.n S A a w) {m : Nat} : ∀ {xs : List Operand} {l : List AV}, agParts A m xs = some l → ∃ dss : List (List Value), (xs.map a.eval).map Value.cells = dss.map List.toArray ∧ (∀ ds, ds ∈ dss → ds.length = m) ∧ All2 (RPs S C.L w) l dss.flatten
  | [], l, hp => by
    simp [agParts] at hp
    subst hp
    exact ⟨[], rfl, by simp, trivial⟩
  | x :: r, l, hp => by
    unfold agParts at hp
    split at hp
    · rename_i l₁ l₂ hx hr
      split at hp
      · rename_i hm
        simp only [beq_iff_eq] at hm
        cases hp
        obtain ⟨dss, h1, h2, h3⟩ := agParts_ok h hr
        obtain ⟨cs, hv, hc⟩ := eval_opd h hx
        refine ⟨cs :: dss, ?_, ?_, ?_⟩
        · simp only [List.map_cons, h1, hv]
          rfl
        · intro ds hd
          rcases List.mem_cons.1 hd with rfl | hd
          · rw [← hm]; exact hc.length
          · exact h2 ds hd
        · rw [List.flatten_cons]
          exact hc.append h3
      · cases hp
    · cases hp
theorem flat_len {m : Nat} : ∀ {dss : List (List Value)}, (∀ ds, ds ∈ dss → ds.length = m) → dss.flatten.length = dss.length * m
  | [], _ => by simp
  | ds :: dss, h => by
    rw [List.flatten_cons, List.length_append, flat_len (fun d hd => h d (List.mem_cons_of_mem _ hd)), h ds (List.mem_cons_self ..), List.length_cons, Nat.add_mul]
    omega
theorem buildS'_ok {T : TypeId} {len : Nat} {parts : Array (Nat × Operand)} (hop : o.op = .buildSlice T len parts) (hte : teOK P E.te = true) (h : Inv C E.n S A a w) (hK : abuildS' E A o.dst T len parts.toList K) (hn : Nx C E.n S K next) : o.wp P a w next Q := by
  unfold abuildS' at hK
  split at hK
  · rename_i e m hT
    obtain ⟨hu, hm0, j, z, hj, hj1, hz⟩ := te_sls hte hT
    unfold abuildSS at hK
    split at hK
    · rename_i hc
      simp only [Bool.and_eq_true, beq_iff_eq, decide_eq_true_eq] at hc
      obtain ⟨⟨hidx, hlt⟩, hpos⟩ := hc
      split at hK
      · rename_i l hp
        obtain ⟨dss, h1, h2, h3⟩ := agParts_ok h hp
        have hxl : ((parts.toList.map (·.2)).map a.eval).length = len := by
          have := congrArg List.length hidx
          simpa using this
        have hdl : dss.length = len := by
          have := congrArg List.length h1
          simp only [List.length_map] at this
          rw [← this]
          simpa using hxl
        have hfill := fill_dense_m (m := m) _ dss ((Array.range (len * m)).map (z.cells[· % z.cells.size]!)).toList 0 h1 h2 (by simp only [hxl]; simp)
        rw [hxl, ← List.range_eq_range'] at hfill
        simp only [Array.toArray_toList, Nat.zero_mul, List.take_zero, List.nil_append, Nat.zero_add] at hfill
        rw [List.drop_of_length_le (by simp), List.append_nil] at hfill
        have hmul : ¬ len * m = 0 := by
          intro h0
          rcases Nat.mul_eq_zero.1 h0 with h0 | h0 <;> omega
        have hrun := run_buildSlice w T e len (parts.map fun (i, x) => (i, a.eval x)) dss.flatten.toArray j z hu hj hz (by rw [hj1]; omega) (by rw [hj1]; exact hmul) (by rw [hj1, parts_zip, hidx]; exact hfill)
        refine wp_value (x := .slice (some ⟨w.heap.size, 0, none⟩) len len) (by rw [ex_buildSlice hop, Sem.run_bind, hrun]; rfl) (fin1_ok hK (fun d _ hd => ⟨fun b => S b ∨ b = w.heap.size, fun _ hb => .inl hb, ?_⟩) hn)
        have hmod : Mod (fun _ => False) w (w.alloc (.cells dss.flatten.toArray e)) := Mod.alloc w _
        have hd' : d < a.tmps.size := by rw [h.size]; exact (Rg.has_ok hd).2
        have hsame : ∀ b, S b ∨ C.L b → (w.alloc (.cells dss.flatten.toArray e)).heap[b]? = w.heap[b]? := fun b hb => hmod.block b (h.lt b hb) (fun h => h)
        refine h.step (fun _ => False) (fun k => k = d) hmod (fun _ hb => hb.elim) (by simp [h.size]) (fun i hi => rho_put_ne (by have := (Rg.has_ok hd).1; omega)) (by simp) (nodup_setd h.keys _ _) (h.bxs.setd h.keys (by simp [AV.ref]) (by simp [AV.fref]))
          (fun _ hb => .inl hb) ?_ ?_ ?_ ?_
        · rintro b (hb | rfl)
          · exact .inl hb
          · exact .inr ⟨.inr (Nat.le_refl _), by simp⟩
        · intro k u hg hk
          rcases look_setd h.keys hk with ⟨e1, _⟩ | ⟨e1, e2, e3⟩
          · exact (hg e1).elim
          · exact ⟨e2, rho_put_ne e1, fun t ht => rho_put_ne (fun e4 => e3 (e4 ▸ ht)), fun _ _ _ _ _ hb => hb⟩
        · intro k u hg hk
          rcases look_setd h.keys hk with ⟨rfl, rfl⟩ | ⟨e1, _⟩
          · rw [show rho (a.put (some k) (.slice (some ⟨w.heap.size, 0, none⟩) len len)) k = .slice (some ⟨w.heap.size, 0, none⟩) len len by rw [rho_put hd']; simp]
            refine ⟨⟨w.heap.size, e, (0, 0), dss.flatten, rfl, .inl (.inr rfl), heap_alloc_new w _, ?_⟩, by simp [owned], by simp [owned]⟩
            exact All2.mono (fun _ _ hr => RPs.keep (fun _ hb => .inl hb) hsame hr) h3
          · exact (e1 hg).elim
        · intro k u t v hg hg' hne
          exact (hne (hg.trans hg'.symm)).elim
      · exact hK.elim
    · exact hK.elim
  · exact buildS_ok hop hte h hK hn
/-- What was taken out of a box goes back. -/
theorem Inv.backF {n : Rg} (h : Inv C n S A a w) {s f t : Nat} {l : List AV} {e : TypeId} {c : Sq} (hst : s ≠ t) (ht : look t A = some (.ow e c)) (hl : look s A = some (.bx l)) (hf : l[f]? = some .jk) {b : Nat} {e' : TypeId} {cs : List Value}
    (hs : rho a s = .pointer (some ⟨b, 0, none⟩)) (hh : w.heap[b]? = some (.cells cs.toArray e' (0, 0))) (hx : cs[f]? = some (rho a t)) :
    Inv C n S (dropR t (upd s (.bx (l.set f (.ow e c))) A)) a w := by
  obtain ⟨b2, e2, cs2, h4, h5, hr⟩ := h.rel s _ hl
  have hb : b = b2 := by have := hs.symm.trans h4; simpa using this
  subst hb
  rw [hh] at h5
  simp at h5
  obtain ⟨rfl, rfl⟩ := h5
  have ho : Own S w e c (rho a t) := h.rel t _ ht
  have hkk := nodup_upd h.keys s (.bx (l.set f (.ow e c)))
  have how : owned w (.bx l) (rho a s) = b :: ownFs l cs := by rw [hs]; simp [owned, rowOf_eq hh]
  have how' : owned w (.bx (l.set f (.ow e c))) (rho a s) = b :: ownFs (l.set f (.ow e c)) cs := by rw [hs]; simp [owned, rowOf_eq hh]
  have hnd : (b :: ownFs l cs).Nodup := by rw [← how]; exact h.nd s _ hl
  have hdj : ∀ k, k ∈ owned w (.ow e c) (rho a t) → k ∉ b :: ownFs l cs := by
    intro k hk
    rw [← how]
    exact h.dj t _ s _ ht hl (Ne.symm hst) k hk
  have hfw : ownF (.ow e c) (rho a t) = owned w (.ow e c) (rho a t) := ownF_ow _ _ _
  have hset : cs.set f (rho a t) = cs := by
    apply List.ext_getElem?
    intro i
    rw [List.getElem?_set]
    split
    · rename_i hi
      subst hi
      rw [hx]
      simp [(List.getElem?_eq_some_iff.1 hx).1]
    · rfl
  have hmem : ∀ k, k ∈ ownFs (l.set f (.ow e c)) cs → k ∈ owned w (.ow e c) (rho a t) ∨ k ∈ ownFs l cs := by
    intro k hk
    rw [← hset] at hk
    have := ownFs_setm hk
    rwa [hfw] at this
  have hnn : (ownFs (l.set f (.ow e c)) cs).Nodup := by
    rw [← hset]
    refine ownFs_setn ?_ (List.nodup_cons.1 hnd).2 ?_
    · rw [hfw]; exact h.nd t _ ht
    · intro k hk hm
      rw [hfw] at hk
      exact hdj k hk (List.mem_cons_of_mem _ hm)
  have hlk : ∀ k u, look k (dropR t (upd s (.bx (l.set f (.ow e c))) A)) = some u → k ≠ t ∧ ((k = s ∧ u = .bx (l.set f (.ow e c))) ∨ (k ≠ s ∧ look k A = some u)) := by
    intro k u hk
    obtain ⟨h1, h2, h3⟩ := look_dropR hkk hk
    refine ⟨h2, ?_⟩
    rcases look_upd h1 with ⟨h4, h5, _⟩ | h4
    · exact .inl ⟨h4, h5⟩
    · exact .inr h4
  have hmine : ∀ k, k ∈ owned w (.bx (l.set f (.ow e c))) (rho a s) → mine A a w (fun k => k = t ∨ k = s) k := by
    intro k hk
    rw [how'] at hk
    rcases List.mem_cons.1 hk with rfl | hk
    · exact mine_one (.inr rfl) hl (by rw [how]; exact List.mem_cons_self ..)
    · rcases hmem k hk with h1 | h1
      · exact mine_one (.inl rfl) ht h1
      · exact mine_one (.inr rfl) hl (by rw [how]; exact List.mem_cons_of_mem _ h1)
  refine h.step (fun _ => False) (fun k => k = t ∨ k = s) (Mod.refl _ _) (fun _ hb => hb.elim) h.size (fun _ _ => rfl) rfl (nodup_dropR hkk t) ((h.bxs.upd (by simp [AV.fref]) (fun _ _ => ⟨_, rfl⟩)).dropR hkk t) (fun _ hb => hb) (fun _ hb => .inl hb) ?_ ?_ ?_
  · intro k u hg hk
    obtain ⟨h1, ⟨h2, _⟩ | ⟨h2, h3⟩⟩ := hlk k u hk
    · exact (hg (.inr h2)).elim
    · exact ⟨h3, rfl, fun _ _ => rfl, fun _ _ _ _ _ hb => hb⟩
  · intro k u hg hk
    obtain ⟨h1, ⟨rfl, rfl⟩ | ⟨h2, h3⟩⟩ := hlk k u hk
    · refine ⟨⟨b, e', cs, hs, hh, ?_⟩, ?_, fun k' hk' => ⟨(h.mine_apart (hmine k' hk')).1, .inl (hmine k' hk')⟩⟩
      · have hlt : f < l.length := (List.getElem?_eq_some_iff.1 hf).1
        refine All2.of_get (fun i v' hv' => ?_) (by have := hr.length; simp; omega)
        rw [List.getElem?_set] at hv'
        split at hv'
        · rename_i hi
          subst hi
          simp [hlt] at hv'
          subst hv'
          exact ⟨_, hx, ho⟩
        · exact hr.get hv'
      · rw [how', List.nodup_cons]
        refine ⟨fun hm => ?_, hnn⟩
        rcases hmem b hm with h4 | h4
        · exact hdj b h4 (List.mem_cons_self ..)
        · exact (List.nodup_cons.1 hnd).1 h4
    · rcases hg with e | e
      · exact (h1 e).elim
      · exact (h2 e).elim
  · intro k u k' v hg hg' hne hk hk'
    obtain ⟨h1, ⟨h2, _⟩ | ⟨h2, _⟩⟩ := hlk k u hk
    · obtain ⟨h1', ⟨h2', _⟩ | ⟨h2', _⟩⟩ := hlk k' v hk'
      · exact (hne (h2.trans h2'.symm)).elim
      · rcases hg' with e | e
        · exact (h1' e).elim
        · exact (h2' e).elim
    · rcases hg with e | e
      · exact (h1 e).elim
      · exact (h2 e).elim
/-! ### Structs whose parts are owned elsewhere, laid into a box -/
theorem RD.rps {ρ : Nat → Value} {v : AV} {x : Value} (h : RPs S C.L w v x) : RD S C.L w ρ v x := by
  cases v with
  | al s => exact (Bool.false_ne_true h.1).elim
  | _ => exact h
theorem alsOf_mem {f t : Nat} : ∀ {l : List AV} {k : Nat}, (f, t) ∈ alsOf k l → ∃ i, f = k + i ∧ l[i]? = some (.al t)
  | [], _, h => by cases h
  | v :: l, k, h => by
    have tl : (f, t) ∈ alsOf (k + 1) l → ∃ i, f = k + i ∧ (v :: l)[i]? = some (.al t) := fun h => by
      obtain ⟨i, h1, h2⟩ := alsOf_mem h
      exact ⟨i + 1, by omega, by simpa using h2⟩
    cases v with
    | al s =>
      simp only [alsOf] at h
      rcases List.mem_cons.1 h with h | h
      · cases h; exact ⟨0, rfl, rfl⟩
      · exact tl h
    | _ => exact tl h
theorem unal_rps {ρ : Nat → Value} : ∀ {l : List AV} {cs : List Value}, All2 (RD S C.L w ρ) l cs → All2 (RPs S C.L w) (l.map unal) cs
  | [], [], _ => trivial
  | v :: l, x :: cs, h => ⟨by
      have h1 := h.1
      cases v with
      | al s => exact ⟨rfl, trivial⟩
      | _ => exact h1, unal_rps h.2⟩
theorem backL_ok {n : Rg} {s b : Nat} {e' : TypeId} {cs : List Value} (hs : rho a s = .pointer (some ⟨b, 0, none⟩)) (hh : w.heap[b]? = some (.cells cs.toArray e' (0, 0))) :
    ∀ {ps : List (Nat × Nat)} {A A' : Fr}, Inv C n S A a w → backL s ps A = some A' → (∀ p, p ∈ ps → p.2 ≠ s → cs[p.1]? = some (rho a p.2)) → Inv C n S A' a w
  | [], A, A', h, hb, _ => by cases hb; exact h
  | (f, t) :: ps, A, A', h, hb, hx => by
    unfold backL at hb
    split at hb
    · rename_i A₁ h1
      refine backL_ok hs hh ?_ hb fun p hp => hx p (List.mem_cons_of_mem _ hp)
      unfold backF at h1
      split at h1
      · rename_i e c l ht hl
        split at h1
        · rename_i hf
          split at h1
          · cases h1
          · rename_i hne
            cases h1
            have hst : s ≠ t := by simpa using hne
            exact h.backF hst ht hl hf hs hh (hx (f, t) (List.mem_cons_self ..) (Ne.symm hst))
        · cases h1
      · cases h1
    · cases hb
theorem isOw_some {A : Fr} {t : Nat} (h : isOw A t = true) : ∃ e c, look t A = some (.ow e c) := by
  unfold isOw at h
  split at h
  · exact ⟨_, _, by assumption⟩
  · cases h
theorem partsA_ok (h : Inv C E.n S A a w) : ∀ {xs : List Operand} {vs : List AV}, partsA A xs = some vs → All2 (RBG (RD S C.L w (rho a))) vs (xs.map a.eval)
  | [], vs, hp => by cases hp; trivial
  | x :: xs, vs, hp => by
    unfold partsA at hp
    have one : ∀ v, opd A x = some v → stat v = true → v ≠ .jk → partsOf v = some [v] → RBG (RD S C.L w (rho a)) v (a.eval x) := by
      intro v hv hs hj hpo
      have hr := eval_opd h hv
      have hrp : RPs S C.L w v (a.eval x) := ⟨hs, by cases v <;> first | exact hr | (simp [stat] at hs)⟩
      exact ⟨[v], [a.eval x], hpo, RP.cells (C := C) hrp.2 hj, RD.rps (C := C) hrp, trivial⟩
    have own : ∀ t e c, look t A = some (.ow e c) → a.eval x = rho a t → RBG (RD S C.L w (rho a)) (.al t) (a.eval x) := by
      intro t e c ht hev
      have ho : RP S C.L w (.ow e c) (rho a t) := h.rel t _ ht
      exact ⟨[.al t], [a.eval x], rfl, by rw [hev]; exact RP.cells (C := C) ho (by simp), hev, trivial⟩
    split at hp
    · rename_i hx hr; cases hp; exact ⟨one _ hx rfl (by simp) rfl, partsA_ok h hr⟩
    · rename_i hx hr; cases hp; exact ⟨one _ hx rfl (by simp) rfl, partsA_ok h hr⟩
    · rename_i hx hr; cases hp; exact ⟨one _ hx rfl (by simp) rfl, partsA_ok h hr⟩
    · rename_i e c r hx hr
      cases x with
      | tmp t =>
        simp [otmp] at hp
        subst hp
        exact ⟨own t e c hx rfl, partsA_ok h hr⟩
      | _ => simp [otmp] at hp
    · rename_i s r hx hr
      split at hp
      · rename_i ho
        cases hp
        obtain ⟨e, c, hl⟩ := isOw_some ho
        exact ⟨own s e c hl (eval_opd h hx), partsA_ok h hr⟩
      · cases hp
    · cases hp
theorem buildA_ok {T : TypeId} {parts : Array (Nat × Operand)} (hop : o.op = .build T parts) (hte : teOK P E.te = true) (h : Inv C E.n S A a w) (hK : abuildA E A o.dst T parts.toList K) (hn : Nx C E.n S K next) : o.wp P a w next Q := by
  unfold abuildA at hK
  split at hK
  · rename_i vs fs n z hp hT
    split at hK
    · rename_i l hpl
      obtain ⟨fs', hu, hfo, i, hi', _, _, cs, hz, hez⟩ := te_strct hte hT
      obtain ⟨ds, hd, hr⟩ := place_okG (R := RD S C.L w (rho a)) (pl := (fun x => (fs.map fun f => (f.1, f.2.2)).toArray[x]?)) (cs := cs.toList) (fun i o t s hi => by simp [hi]) (partsA_ok h hp) (All2.mono (fun _ _ h => RD.rps (C := C) h) (eqZ_rps hez)) hpl
      refine wp_value (x := .agg ds.toArray) ?_ (fin_ok h hK ⟨ds, rfl, hr⟩ (owned_non rfl _ _) hn)
      rw [ex_build hop, Sem.run_bind, run_build w T _ ds.toArray (by
        rw [parts_zip]
        simp only [Program.built, hi', hu, hz, places_run hfo, Value.cells]
        simpa using hd)]
      rfl
    · exact hK.elim
  · exact hK.elim
theorem RD.one (h : Inv C E.n S A a w) {v : AV} {x : Value} (hr : RD S C.L w (rho a) v x) (hl : laysOK A v = true) : x.oneCell' = true := by
  cases v with
  | al s =>
    obtain ⟨e, c, ht⟩ := isOw_some hl
    have ho : RP S C.L w (.ow e c) (rho a s) := h.rel s _ ht
    rw [show x = rho a s from hr]
    exact RP.one ho (by simp)
  | pv v => exact RP.one (C := C) (S := S) (w := w) hr.2 (by simp)
  | sl c => exact RP.one (C := C) (S := S) (w := w) hr.2 (by simp)
  | nl e c => exact RP.one (C := C) (S := S) (w := w) hr.2 (by simp)
  | _ => cases hl
theorem box'_ok {T : TypeId} {x : Operand} (hop : o.op = .box T x) (h : Inv C E.n S A a w) (hK : abox' E A o.dst x K) (hn : Nx C E.n S K next) : o.wp P a w next Q := by
  unfold abox' at hK
  split at hK
  · rename_i l hx
    split at hK
    · rename_i d hd
      split at hK
      · rename_i hc
        simp only [Bool.and_eq_true] at hc
        split at hK
        · rename_i A' hb
          obtain ⟨ds, hev, hr⟩ := eval_opd h hx
          refine wp_value (ex_box hop) ?_
          rw [hev, hd]
          have hi := h.freshBx T hc.1 (unal_rps hr)
          have hdn : d < a.tmps.size := by
            have := hc.1
            unfold Rg.has at this
            rw [Bool.and_eq_true] at this
            rw [h.size]
            exact Nat.le_of_ble_eq_true this.2
          have hrd : rho (a.put (some d) (.pointer (some ⟨w.heap.size, 0, none⟩))) d = .pointer (some ⟨w.heap.size, 0, none⟩) := by rw [rho_put hdn]; simp
          refine hn _ _ _ S (backL_ok hrd (heap_alloc_new w _) hi hb fun p hp hne => ?_) (fun _ hb => hb) hK
          obtain ⟨i, h1, h2⟩ := alsOf_mem (f := p.1) (t := p.2) hp
          obtain ⟨y, hy, hry⟩ := hr.get h2
          rw [rho_put_ne hne, h1, Nat.zero_add, hy, show y = rho a p.2 from hry]
        · exact hK.elim
      · exact hK.elim
    · exact hK.elim
  · exact box_ok hop h hK hn
theorem storeA_ok {T : TypeId} {x y : Operand} {s b : Nat} {v : List AV} (hop : o.op = .store T x y) (hd : o.dst = none) (hte : teOK P E.te = true) (h : Inv C E.n S A a w) (hp : a.eval x = .pointer (some ⟨b, 0, none⟩)) (hs : rho a s = .pointer (some ⟨b, 0, none⟩)) (hy : opd A y = some (.ao v))
    (hK : astoreA E A T s v K) (hn : Nx C E.n S K next) : o.wp P a w next Q := by
  unfold astoreA at hK
  split at hK
  · rename_i m l hag hl
    have hsz := (agg_agg (P := P) (w := w) hte hag).2
    split at hK
    · rename_i hc
      simp only [Bool.and_eq_true, beq_iff_eq] at hc
      obtain ⟨hlm, hvm, hlay⟩ := hc
      split at hK
      · rename_i A' hb
        obtain ⟨b2, e, cs, hx, hh, hr⟩ := h.rel s _ hl
        have hbb : b = b2 := by have := hs.symm.trans hx; simpa using this
        subst hbb
        obtain ⟨ds, hev, hds⟩ := eval_opd h hy
        have hcl := hr.length
        have hdl : ds.length = v.length := hds.length
        have hone : ∀ u, u ∈ ds → u.oneCell' = true := by
          intro u hu
          obtain ⟨i, hi⟩ := List.getElem?_of_mem hu
          obtain ⟨v', hv', hrp⟩ := hds.get' hi
          exact RD.one h hrp (List.all_eq_true.1 hlay _ (List.mem_of_getElem? hv'))
        refine store_fin hop hd hp hh (vs := ds) (by rw [hev]; rfl) (by rw [hsz, hdl, hvm]) hone (by omega) ?_
        intro w' hm hh'
        rw [List.take_zero, List.nil_append, List.drop_of_length_le (by omega), List.append_nil] at hh'
        have how : owned w (.bx l) (rho a s) = b :: ownFs l cs := by rw [hs]; simp [owned, rowOf_eq hh]
        have hnd0 : (b :: ownFs l cs).Nodup := by rw [← how]; exact h.nd s _ hl
        have hf0 : ownFs (v.map unal) ds = [] := RPss.ownFs (unal_rps hds)
        have hi := h.putBx (fun _ => False) A h.keys h.bxs (fun k u hk => ⟨hk, fun hb => hb, fun _ _ hb => hb⟩) hl hs hm hh' (All2.mono (fun _ _ h => h.2) (unal_rps (C := C) hds)) (by rw [hf0]; simp) (by rw [hf0]; simp)
        refine hn _ _ _ S (backL_ok hs hh' hi hb fun p hp hne => ?_) (fun _ hb => hb) hK
        obtain ⟨i, h1, h2⟩ := alsOf_mem (f := p.1) (t := p.2) hp
        obtain ⟨y', hy', hry⟩ := hds.get h2
        rw [h1, Nat.zero_add, hy', show y' = rho a p.2 from hry]
      · exact hK.elim
    · exact hK.elim
  · exact hK.elim
theorem store'_ok {T : TypeId} {x y : Operand} (hop : o.op = .store T x y) (hd : o.dst = none) (hte : teOK P E.te = true) (h : Inv C E.n S A a w) (hK : astore' E A T x y K) (hn : Nx C E.n S K next) : o.wp P a w next Q := by
  unfold astore' at hK
  split at hK
  · rename_i v hy
    split at hK
    · rename_i t
      split at hK
      · rename_i l hl
        obtain ⟨b, e, cs, hx, _⟩ := h.rel t _ hl
        exact storeA_ok hop hd hte h hx hx hy hK hn
      · rename_i s hl
        obtain ⟨b, hs, hx⟩ := h.rel t _ hl
        exact storeA_ok hop hd hte h hx hs hy hK hn
      · exact hK.elim
    · exact hK.elim
  · exact store_ok hop hd hte h hK hn

theorem put_self {t : Nat} (ht : t < a.tmps.size) : a.put (some t) (rho a t) = a := by
  have : a.tmps.setIfInBounds t (rho a t) = a.tmps := by
    apply Array.ext_getElem?
    intro i
    rw [Array.getElem?_setIfInBounds]
    split
    · rename_i hi
      subst hi
      simp [ht, rho, Array.getD_eq_getD_getElem?]
    · rfl
  unfold Act.put
  simp only [this]
theorem callF_ok {f : FuncId} {ats : Array TypeId} {args : List Operand} {t s fl : Nat} {sp : Spec} (hE : EnvOK P E C) (hop : o.op = .call ⟨.value (.func f), args.toArray, ats⟩) (h : Inv C E.n S A a w) (hsp : look f E.orc = some sp) (haf : look t A = some (.af s fl))
    (hK : acallF E A o.dst f sp.modes args t s fl K) (hn : Nx C E.n S K next) : o.wp P a w next Q := by
  unfold acallF takeF at hK
  split at hK
  · rename_i A₁ hA₁
    split at hA₁
    · rename_i l hl
      split at hA₁
      · rename_i e c hf
        split at hA₁
        · rename_i ht
          cases hA₁
          split at hK
          · rename_i hc
            simp only [Bool.and_eq_true, bne_iff_ne, ne_eq] at hc
            obtain ⟨⟨⟨c1, c2⟩, c3⟩, c4⟩ := hc
            obtain ⟨b, e', cs, h1, h2, h3⟩ := h.rel t _ haf
            have hi := h.giveF ht hl hf h1 h2 h3
            rw [put_self (by rw [h.size]; exact (Rg.has_ok ht).2)] at hi
            have hkk := nodup_upd h.keys s (.bx (l.set fl .jk))
            have hls : look s (setd t (.ow e c) (dropF s (upd s (.bx (l.set fl .jk)) A))) = some (.bx (l.set fl .jk)) :=
              look_setd' (nodup_dropF hkk s) (look_dropF' hkk (look_upd_same hl)) c3 (by simp [AV.ref])
            have hb : b ∈ owned w (.bx (l.set fl .jk)) (rho a s) := by rw [h1]; simp [owned]
            refine call_okF hE hi hK hls hb (fun sp' hsp' => by rw [hsp] at hsp'; cases hsp'; exact c4) ?_ ?_
            · intro A' a' w' S' k1 k2 k3 k4 k5
              split at k3
              · rename_i A₃ hb3
                unfold backF at hb3
                split at hb3
                · rename_i e₂ c₂ l₂ m1 m2
                  split at hb3
                  · rename_i m3
                    split at hb3
                    · cases hb3
                    · cases hb3
                      have q1 : rho a' s = .pointer (some ⟨b, 0, none⟩) := by rw [k5 s c2]; exact h1
                      exact hn _ _ _ S' (k1.backF c3 m1 m2 m3 q1 (k4.trans h2) (by rw [k5 t c1]; exact h3)) k2 k3
                  · cases hb3
                · cases hb3
              · exact k3.elim
            · intro cs h1 _
              have := h1 rfl
              subst this
              exact ex_call hop rfl rfl (hE.orc f sp hsp).2
          · exact hK.elim
        · cases hA₁
      · cases hA₁
    · cases hA₁
  · exact hK.elim
theorem callOp_ok {c : Call} (hE : EnvOK P E C) (hop : o.op = .call c) (h : Inv C E.n S A a w) (hK : acallOp E A o.dst c K) (hn : Nx C E.n S K next) : stepK P o a w next := by
  obtain ⟨callee, args, ats⟩ := c
  unfold acallOp at hK
  split at hK
  · rename_i hc
    simp only at hc hK
    subst hc
    split at hK
    · rename_i x T h1 h2
      rw [arr_lit h1, arr_lit h2] at hop
      exact stepK_pure (by rw [hop]; rfl) (len'_ok hop hE.te h hK hn)
    · exact hK.elim
  · rename_i hc
    simp only at hc hK
    subst hc
    split at hK
    · rename_i x y T T' h1 h2
      rw [arr_lit h1, arr_lit h2] at hop
      split at hK
      · rename_i hT
        simp at hT
        subst hT
        exact stepK_other (by rw [hop]; rfl) (append_ok hop hE.te h hK hn)
      · exact hK.elim
    · exact hK.elim
  · rename_i hc
    simp only at hc hK
    subst hc
    split at hK
    · rename_i x y h1
      rw [arr_lit h1] at hop
      split at hK
      · rename_i k m k' n hx hy
        exact stepK_pure (by rw [hop]; rfl) (min_ok hop h hx hy hK hn)
      · exact hK.elim
    · exact hK.elim
  · rename_i f hc
    simp only at hc hK
    subst hc
    split at hK
    · rename_i ms t s fl haf
      cases hsp : look f E.orc with
      | none => simp [hsp] at haf
      | some sp =>
        rw [hsp, Option.bind_some] at haf
        cases hq : afArg A sp.modes args.toList with
        | none => simp [hq] at haf
        | some q =>
          rw [hq] at haf
          simp only [Option.map_some, Option.some.injEq, Prod.mk.injEq] at haf
          obtain ⟨rfl, rfl⟩ := haf
          have hl : look t A = some (.af s fl) := by
            unfold afArg at hq
            split at hq
            · split at hq
              · rename_i s' f' hl
                cases hq
                exact hl
              · cases hq
            · cases hq
          exact stepK_other (by rw [hop]; rfl) (callF_ok (ats := ats) hE (by rw [hop, Array.toArray_toList]) h hsp hl hK hn)
    · exact stepK_other (by rw [hop]; rfl) (call_ok hE h hK hn (fun cs h1 _ => by
        have := h1 rfl
        subst this
        have hsp : ∃ sp, look f E.orc = some sp := by
          unfold acall at hK
          split at hK
          · exact hK.elim
          · rename_i sp hsp; exact ⟨sp, hsp⟩
        obtain ⟨sp, hsp⟩ := hsp
        exact ex_call hop rfl rfl (hE.orc f sp hsp).2))
  · rename_i t hc
    simp only at hc hK
    subst hc
    split at hK
    · rename_i f caps hl
      exact stepK_other (by rw [hop]; rfl) (call_ok hE h hK hn (fun cs _ h2 => by
        have hsp : ∃ sp, look f E.orc = some sp := by
          unfold acall at hK
          split at hK
          · exact hK.elim
          · rename_i sp hsp; exact ⟨sp, hsp⟩
        obtain ⟨sp, hsp⟩ := hsp
        exact ex_call hop rfl (h2 t rfl) (hE.orc f sp hsp).2))
    · exact hK.elim
  · exact hK.elim
theorem aop_ok (hE : EnvOK P E C) (h : Inv C E.n S A a w) (hK : aop E A o K) (hn : Nx C E.n S K next) : stepK P o a w next := by
  have hte := hE.te
  have hK0 := hK
  unfold aop at hK
  split at hK
  · rename_i x hop
    exact stepK_pure (by rw [hop]; rfl) (pwp_value (x := a.eval x) (by intro w'; unfold execOp; rw [hop]; rfl) (move_ok hte h hK hn))
  · rename_i x hop
    exact stepK_pure (by rw [hop]; rfl) (pwp_value (x := a.eval x) (by intro w'; unfold execOp; rw [hop]; rfl) (move_ok hte h hK hn))
  · rename_i c x y hop
    refine stepK_pure (by rw [hop]; rfl) ?_
    split at hK
    · rename_i t hc
      have hev := eval_pv h hc
      cases t with
      | true => exact pwp_value (x := a.eval x) (by intro w'; unfold execOp; rw [hop]; simp [hev, asBool]) (move_ok hte h hK hn)
      | false => exact pwp_value (x := a.eval y) (by intro w'; unfold execOp; rw [hop]; simp [hev, asBool]) (move_ok hte h hK hn)
    · exact hK.elim
  · rename_i T hop
    exact stepK_other (by rw [hop]; rfl) (alloc_ok hop hte h hK0 hn)
  · rename_i T x hop
    exact stepK_other (by rw [hop]; rfl) (box'_ok hop h hK hn)
  · rename_i T parts hop
    refine stepK_other (by rw [hop]; rfl) ?_
    split at hK
    · exact buildA_ok hop hte h hK hn
    · exact build_ok hop hte h hK hn
  · rename_i T len parts hop
    exact stepK_other (by rw [hop]; rfl) (buildS'_ok hop hte h hK hn)
  · rename_i T x hop
    exact stepK_read (by rw [hop]; rfl) (load_ok hop hE h hK hn)
  · rename_i T x y hop
    refine stepK_other (by rw [hop]; rfl) ?_
    split at hK
    · rename_i hd
      exact store'_ok hop hd hte h hK hn
    · exact hK.elim
  · rename_i x hop
    exact stepK_pure (by rw [hop]; rfl) (nil_ok hop h hK hn)
  · rename_i op T x y yt hop
    exact stepK_pure (by rw [hop]; rfl) (binop_ok hop hte h hK hn)
  · rename_i op T x hop
    refine stepK_pure (by rw [hop]; rfl) ?_
    split at hK
    · rename_i v hx
      exact unop_ok hop h hx hK hn
    · exact hK.elim
  · rename_i src dst x hop
    refine stepK_pure (by rw [hop]; rfl) ?_
    split at hK
    · rename_i k₁ k k₂ v h1 h2 hx
      exact convert_ok hop hte h h1 h2 hx hK hn
    · exact hK.elim
  · rename_i f first captured hop
    refine stepK_other (by rw [hop]; rfl) ?_
    split at hK
    · rename_i hfi
      have hfi' : first = #[] := by simpa using hfi
      subst hfi'
      split at hK
      · rename_i caps hc
        refine wp_value (w' := w) (x := .func (.func f) #[] (captured.toList.map a.eval).toArray) ?_ (fin_ok h hK ⟨_, rfl, acaps_ok h hc⟩ rfl hn)
        unfold execOp; rw [hop]
        have e : captured.map a.eval = (captured.toList.map a.eval).toArray := by apply Array.ext'; simp
        simp [Instr.makeFunc, e]
      · exact hK.elim
    · exact hK.elim
  · rename_i T l c hop
    refine stepK_other (by rw [hop]; rfl) ?_
    split at hK
    · rename_i e z n m hT hl hc
      split at hK
      · rename_i z' hz
        exact makeSlice_ok hop hte h hT hl hc hz hK hn
      · exact hK.elim
    · exact hK.elim
  · rename_i T x lo hi hop
    exact stepK_pure (by rw [hop]; rfl) (slice_ok hop hte h hK hn)
  · rename_i T x f hop
    exact stepK_pure (by rw [hop]; rfl) (fieldAddr_ok hop hte h hK hn)
  · rename_i T x f hop
    exact stepK_pure (by rw [hop]; rfl) (field_ok hop hte h hK hn)
  · rename_i T x i hop
    exact stepK_pure (by rw [hop]; rfl) (indexAddr'_ok hop hte h hK hn)
  · rename_i T x i hop
    exact stepK_pure (by rw [hop]; rfl) (index_ok hop hte h hK hn)
  · rename_i x i hop
    exact stepK_pure (by rw [hop]; rfl) (extract_ok hop h hK hn)
  · rename_i c hop
    exact callOp_ok hE hop h hK hn
  · exact hK.elim
end
end Go.Gx

/-
  Gx25: rows of operations keep the invariant, in whatever order they are named.
  Conditions: none; the machine's soundness for a row of operations.
-/
namespace Go.Gx
open Go

/-- One operation of a region succeeds, or is not wanted; then 'next' holds. -/
def stepG (P : Program) (ops : Array Oper) (o : Oper) (a : Act) (w : World) (next : Act → World → Prop) : Prop :=
  if Region.wanted o (yielded ops a.tmps) then stepK P o a w next else next (a.put o.dst undef) w
/-- The operations of these numbers succeed one after the other, and then 'next' holds. -/
def okI (P : Program) (ops : Array Oper) (next : Act → World → Prop) : List Nat → Act → World → Prop
  | [], a, w => next a w
  | i :: r, a, w => match ops[i]? with
    | none => okI P ops next r a w
    | some o => stepG P ops o a w (okI P ops next r)
theorem upon_mono {P : Program} {o : Oper} {a : Act} {next next' : Act → World → Prop} {Q : Exit → Act → World → Prop} (hn : ∀ a w, next a w → next' a w) : ∀ {r : Result Next}, o.upon P a next (fun _ _ _ => False) r → o.upon P a next' Q r := by
  intro r h
  unfold Oper.upon at h ⊢
  split at h
  · exact hn _ _ h
  · exact hn _ _ h
  · exact hn _ _ h
  · refine Calls.mono h fun e w' h => ?_
    cases e with
    | returned v => exact hn _ _ h
    | panicked chain => exact h.elim
    | outgrown =>
      obtain ⟨_, _, h⟩ := h
      exact h.elim
  · exact Rows.mono h fun v w' h => hn _ _ h
  · exact h.elim
  · exact h.elim
theorem stepK_mono {P : Program} {o : Oper} {a : Act} {w : World} {next next' : Act → World → Prop} (h : stepK P o a w next) (hn : ∀ a w, next a w → next' a w) : stepK P o a w next' := by
  unfold stepK at h ⊢
  split at h
  · obtain ⟨v, hr, h⟩ := h; exact ⟨v, hr, hn _ _ h⟩
  · obtain ⟨v, hr, h⟩ := h; exact ⟨v, hr, hn _ _ h⟩
  · exact upon_mono hn h
theorem stepK_wp {P : Program} {o : Oper} {a : Act} {w : World} {next : Act → World → Prop} {Q : Exit → Act → World → Prop} (h : stepK P o a w next) : o.wp P a w next Q := by
  unfold stepK at h
  split at h
  · exact h.wp
  · exact h.wp
  · exact upon_mono (fun _ _ h => h) h
theorem stepG_mono {P : Program} {ops : Array Oper} {o : Oper} {a : Act} {w : World} {next next' : Act → World → Prop} (h : stepG P ops o a w next) (hn : ∀ a w, next a w → next' a w) : stepG P ops o a w next' := by
  unfold stepG at h ⊢
  split at h
  · rename_i hw; rw [if_pos hw]; exact stepK_mono h hn
  · rename_i hw; rw [if_neg hw]; exact hn _ _ h
theorem okI_mono {P : Program} {ops : Array Oper} {next next' : Act → World → Prop} (hn : ∀ a w, next a w → next' a w) : ∀ {l : List Nat} {a : Act} {w : World}, okI P ops next l a w → okI P ops next' l a w
  | [], _, _, h => hn _ _ h
  | i :: r, a, w, h => by
    unfold okI at h ⊢
    split at h
    · exact okI_mono hn h
    · exact stepG_mono h fun a w h => okI_mono hn h
theorem okI_wpOps {P : Program} {ops : Array Oper} {Q : Exit → Act → World → Prop} : ∀ {l : List Nat} {a : Act} {w : World}, okI P ops (Q .normal) l a w → wpOps P ops Q l a w
  | [], _, _, h => h
  | i :: r, a, w, h => by
    unfold okI at h
    unfold wpOps
    split at h
    · rename_i ho
      rw [ho]
      exact okI_wpOps h
    · rename_i o ho
      rw [ho]
      simp only
      unfold stepG at h
      split at h
      · rename_i hw
        rw [if_pos hw]
        exact .inl (stepK_wp (stepK_mono h fun a w h => okI_wpOps h))
      · rename_i hw
        rw [if_neg hw]
        exact okI_wpOps h

section
variable {P : Program} {C : Ctx} {E : Env} {S S' : Nat → Prop} {A : Fr} {a : Act} {w w' : World} {K : Fr → Prop} {next : Act → World → Prop} {o : Oper} {ops : Array Oper}
theorem upd_id {s : Nat} {v : AV} : ∀ {A : Fr}, look s A = some v → upd s v A = A
  | [], _ => rfl
  | (t, x) :: r, h => by
    simp only [look] at h
    simp only [upd]
    split at h
    · rename_i e
      simp at h
      simp [h, e]
    · rename_i e
      simp at e
      simp [e, upd_id h]
theorem skip_ok (h : Inv C E.n S A a w) (hK : askip E A o K) (hn : Nx C E.n S K next) : next (a.put o.dst undef) w :=
  fin_ok h hK ⟨[], rfl, trivial⟩ rfl hn
def asB : Value → Option Bool
  | .bool b => some b
  | _ => none
omit o in
theorem yielded_of {j d : Nat} (hd : (ops[j]?).bind (·.dst) = some d) : yielded ops a.tmps j = asB (rho a d) := by
  unfold yielded
  rw [hd]
  simp only [Option.bind_some]
  cases ht : a.tmps[d]? with
  | none =>
    have : rho a d = undef := by unfold rho; rw [Array.getD_eq_getD_getElem?, ht]; rfl
    rw [this]
    rfl
  | some y =>
    have : rho a d = y := by unfold rho; rw [Array.getD_eq_getD_getElem?, ht]; rfl
    rw [this]
    cases y <;> rfl
/-- One operation, guarded or not. -/
theorem guarded_ok (hE : EnvOK P E C) (h : Inv C E.n S A a w) (hK : guarded E A ops o K) (hn : Nx C E.n S K next) : stepG P ops o a w next := by
  unfold stepG
  unfold guarded at hK
  split at hK
  · rename_i hg
    rw [if_pos (by simp [Region.wanted, hg])]
    exact aop_ok hE h hK hn
  · rename_i j want hg
    split at hK
    · rename_i d hd
      split at hK
      · rename_i g hl
        have hx : rho a d = .bool g := (h.rel d _ hl).1
        have hy := yielded_of (a := a) hd
        rw [hx] at hy
        simp only [asB] at hy
        cases g <;> cases want <;> simp only [br] at hK <;> rw [upd_id hl] at hK
        · rw [if_pos (by simp [Region.wanted, hg, hy])]; exact aop_ok hE h hK hn
        · rw [if_neg (by simp [Region.wanted, hg, hy])]; exact skip_ok h hK hn
        · rw [if_neg (by simp [Region.wanted, hg, hy])]; exact skip_ok h hK hn
        · rw [if_pos (by simp [Region.wanted, hg, hy])]; exact aop_ok hE h hK hn
      · rename_i hl
        have hx : rho a d = undef := by
          obtain ⟨cs, hx, hc⟩ := h.rel d _ hl
          cases cs with
          | nil => exact hx
          | cons => exact hc.elim
        have hy := yielded_of (a := a) hd
        rw [hx] at hy
        have hy' : yielded ops a.tmps j = none := hy
        rw [if_neg (by simp [Region.wanted, hg, hy'])]
        exact skip_ok h hK hn
      · exact hK.elim
    · exact hK.elim
/-- The operations of these numbers, on frames. -/
def aopsI (E : Env) (ops : Array Oper) : List Nat → Fr → (Fr → Prop) → Prop
  | [], A, K => K A
  | i :: r, A, K => match ops[i]? with
    | none => aopsI E ops r A K
    | some o => guarded E A ops o fun A => aopsI E ops r A K
theorem aopsI_ok (hE : EnvOK P E C) : ∀ {l : List Nat} {S : Nat → Prop} {A : Fr} {a : Act} {w : World}, Inv C E.n S A a w → aopsI E ops l A K → Nx C E.n S K next → okI P ops next l a w
  | [], S, A, a, w, h, hK, hn => hn A a w S h (fun _ hb => hb) hK
  | i :: r, S, A, a, w, h, hK, hn => by
    unfold aopsI at hK
    unfold okI
    split at hK
    · exact aopsI_ok hE h hK hn
    · exact guarded_ok (next := okI P ops next r) hE h hK (fun A' a' w' S' h' hS hK' => aopsI_ok hE h' hK' (hn.mono hS))
theorem aops_text (ops : Array Oper) : ∀ (l : List Oper) (k : Nat), (∀ j, l[j]? = ops[k + j]?) → ∀ A K, aopsI E ops (List.range' k l.length) A K = aops E ops l A K
  | [], k, _, A, K => rfl
  | o :: l, k, hl, A, K => by
    have h0 : ops[k]? = some o := by simpa using (hl 0).symm
    have ih := aops_text ops l (k + 1) (fun j => by have := hl (j + 1); simpa [Nat.add_assoc, Nat.add_comm 1 j] using this)
    simp only [List.length_cons, List.range'_succ]
    unfold aopsI aops
    rw [h0]
    simp only [ih]
theorem aops_range (ops : Array Oper) (A : Fr) (K : Fr → Prop) : aopsI E ops (List.range ops.size) A K = aops E ops ops.toList A K := by
  rw [List.range_eq_range', ← Array.length_toList, aops_text ops ops.toList 0 (by simp)]
theorem aops_ok (hE : EnvOK P E C) (h : Inv C E.n S A a w) (hK : aops E ops ops.toList A K) (hn : Nx C E.n S K next) : okI P ops next (List.range ops.size) a w := by
  rw [← aops_range] at hK
  exact aopsI_ok hE h hK hn
end
end Go.Gx

/-
  Gx26: two operations that no edge orders may be swapped.
  Conditions: none; laws on the model's operations.
-/
namespace Go.Gx
open Go

theorem map_arr {α β : Type} {f g : α → β} {xs : Array α} (h : ∀ x, x ∈ xs.toList → f x = g x) : xs.map f = xs.map g := by
  apply Array.ext'
  rw [Array.toList_map, Array.toList_map]
  exact List.map_congr_left h
theorem map_opt {α β : Type} {f g : α → β} {x : Option α} (h : ∀ y, y ∈ x.toList → f y = g y) : x.map f = x.map g := by
  cases x with
  | none => rfl
  | some y => simp [h y (by simp)]
theorem execOp_congr {ρ ρ' : Operand → Value} {o : Oper} {l : List Operand} (hl : reads o.op = some l) (h : ∀ x, x ∈ l → ρ x = ρ' x) : execOp ρ o = execOp ρ' o := by
  unfold execOp
  cases ho : o.op with
  | call c =>
    rw [ho] at hl
    have hargs : c.args.map ρ = c.args.map ρ' := by
      refine map_arr fun x hx => h x ?_
      unfold reads at hl
      simp only at hl
      split at hl <;> simp at hl <;> subst hl <;> simp [hx]
    have hres : resolve ρ c o.type = resolve ρ' c o.type := by
      unfold resolve
      rw [hargs]
      unfold reads at hl
      simp only at hl
      cases hc : c.callee with
      | builtin b => rfl
      | value f =>
        rw [hc] at hl
        simp at hl
        subst hl
        simp only
        rw [h f (by simp)]
      | invoke r n =>
        rw [hc] at hl
        simp at hl
        subst hl
        simp only
        rw [h r (by simp)]
    simp only [hres]
  | build T ps =>
    rw [ho] at hl
    simp [reads] at hl
    subst hl
    have : (ps.map fun (i, x) => (i, ρ x)) = ps.map fun (i, x) => (i, ρ' x) := map_arr fun e he => by
      simp only
      rw [h e.2 (by simp; exact ⟨e.1, by simpa using he⟩)]
    simp only [this]
  | buildSlice T n ps =>
    rw [ho] at hl
    simp [reads] at hl
    subst hl
    have : (ps.map fun (i, x) => (i, ρ x)) = ps.map fun (i, x) => (i, ρ' x) := map_arr fun e he => by
      simp only
      rw [h e.2 (by simp; exact ⟨e.1, by simpa using he⟩)]
    simp only [this]
  | slice T x lo hi mx =>
    rw [ho] at hl
    simp [reads] at hl
    subst hl
    have h1 : lo.map ρ = lo.map ρ' := map_opt fun y hy => h y (by simp_all)
    have h2 : hi.map ρ = hi.map ρ' := map_opt fun y hy => h y (by simp_all)
    have h3 : mx.map ρ = mx.map ρ' := map_opt fun y hy => h y (by simp_all)
    have h0 : ρ x = ρ' x := h x (by simp)
    simp only [h0, h1, h2, h3]
  | alloc T => rfl
  | move x => rw [ho] at hl; simp [reads] at hl; subst hl; simp only [h x (by simp)]
  | assign x => rw [ho] at hl; simp [reads] at hl; subst hl; simp only [h x (by simp)]
  | box T x => rw [ho] at hl; simp [reads] at hl; subst hl; simp only [h x (by simp)]
  | load T x => rw [ho] at hl; simp [reads] at hl; subst hl; simp only [h x (by simp)]
  | nilCheck x => rw [ho] at hl; simp [reads] at hl; subst hl; simp only [h x (by simp)]
  | unOp p T x => rw [ho] at hl; simp [reads] at hl; subst hl; simp only [h x (by simp)]
  | convert p T x => rw [ho] at hl; simp [reads] at hl; subst hl; simp only [h x (by simp)]
  | fieldAddr T x f => rw [ho] at hl; simp [reads] at hl; subst hl; simp only [h x (by simp)]
  | field T x f => rw [ho] at hl; simp [reads] at hl; subst hl; simp only [h x (by simp)]
  | extract x f => rw [ho] at hl; simp [reads] at hl; subst hl; simp only [h x (by simp)]
  | pick c x y => rw [ho] at hl; simp [reads] at hl; subst hl; simp only [h c (by simp), h x (by simp), h y (by simp)]
  | store T x y => rw [ho] at hl; simp [reads] at hl; subst hl; simp only [h x (by simp), h y (by simp)]
  | binOp p T x y t => rw [ho] at hl; simp [reads] at hl; subst hl; simp only [h x (by simp), h y (by simp)]
  | makeSlice T x y => rw [ho] at hl; simp [reads] at hl; subst hl; simp only [h x (by simp), h y (by simp)]
  | indexAddr T x y => rw [ho] at hl; simp [reads] at hl; subst hl; simp only [h x (by simp), h y (by simp)]
  | index T x y => rw [ho] at hl; simp [reads] at hl; subst hl; simp only [h x (by simp), h y (by simp)]
  | _ => simp [ho, reads] at hl

theorem eval_put {a : Act} {d : Option Nat} {v : Value} {l : List Operand} (h : ∀ e, d = some e → l.all (fun x => !namesT e x) = true) : ∀ x, x ∈ l → (a.put d v).eval x = a.eval x := by
  intro x hx
  cases d with
  | none => rfl
  | some e =>
    have := List.all_eq_true.1 (h e rfl) x hx
    cases x with
    | tmp t =>
      simp [namesT] at this
      exact rho_put_ne this
    | _ => rfl
theorem put_comm {a : Act} {d e : Option Nat} {x y : Value} (h : ∀ k, d = some k → e ≠ some k) : (a.put d x).put e y = (a.put e y).put d x := by
  cases d with
  | none => rfl
  | some d =>
    cases e with
    | none => rfl
    | some e =>
      have hne : d ≠ e := fun he => h d rfl (by rw [he])
      simp only [Act.put]
      rw [Array.setIfInBounds_comm _ _ hne]

section
variable {P : Program} {ops : Array Oper} {o o₁ o₂ : Oper} {a : Act} {w : World} {next next' K : Act → World → Prop}
theorem freeOf_ok {d : Nat} (h : freeOf ops o (some d) = true) : (∃ l, reads o.op = some l ∧ l.all (fun x => !namesT d x) = true) ∧ guardDst ops o ≠ some d ∧ o.dst ≠ some d := by
  simp only [freeOf, Bool.and_eq_true, Bool.not_eq_true', beq_eq_false_iff_ne] at h
  refine ⟨?_, h.1.2, h.2⟩
  have h1 := h.1.1
  split at h1
  · rename_i l hl; exact ⟨l, hl, h1⟩
  · simp at h1
theorem exec_put {d : Option Nat} {v : Value} (h : freeOf ops o d = true) : execOp (a.put d v).eval o = execOp a.eval o := by
  cases d with
  | none => rfl
  | some d =>
    obtain ⟨⟨l, hl, hf⟩, _⟩ := freeOf_ok h
    exact execOp_congr hl (eval_put (fun e he => by cases he; exact hf))
theorem wanted_put {d : Option Nat} {v : Value} (h : freeOf ops o d = true) : Region.wanted o (yielded ops (a.put d v).tmps) = Region.wanted o (yielded ops a.tmps) := by
  cases d with
  | none => rfl
  | some d =>
    obtain ⟨_, hg, _⟩ := freeOf_ok h
    unfold Region.wanted
    cases hgd : o.guard with
    | none => rfl
    | some g =>
      obtain ⟨j, want⟩ := g
      have : yielded ops (a.put (some d) v).tmps j = yielded ops a.tmps j := by
        unfold yielded
        cases hd : (ops[j]?).bind (·.dst) with
        | none => rfl
        | some e =>
          have hne : d ≠ e := by
            rintro rfl
            exact hg (by simp [guardDst, hgd, hd])
          simp only [Option.bind_some, Act.put, Array.getElem?_setIfInBounds_ne hne]
      simp only [this]
theorem dst_put {d : Option Nat} {x y : Value} (h : freeOf ops o d = true) : (a.put o.dst x).put d y = (a.put d y).put o.dst x := by
  refine put_comm fun k hk hd => ?_
  subst hd
  exact (freeOf_ok h).2.2 hk
/-- A step goes over to the activation in which another slot is set. -/
theorem stepK_put {d : Option Nat} {v : Value} (hf : freeOf ops o d = true) (h : stepK P o a w next) (hn : ∀ a₁ w₁, next a₁ w₁ → next' (a₁.put d v) w₁) : stepK P o (a.put d v) w next' := by
  unfold stepK at h ⊢
  split at h
  · obtain ⟨x, hr, h⟩ := h
    refine ⟨x, fun w' => by rw [exec_put hf]; exact hr w', ?_⟩
    rw [← dst_put hf]
    exact hn _ _ h
  · obtain ⟨x, hr, h⟩ := h
    refine ⟨x, by rw [exec_put hf]; exact hr, ?_⟩
    rw [← dst_put hf]
    exact hn _ _ h
  · unfold Oper.wp at h ⊢
    rw [exec_put hf]
    unfold Oper.upon at h ⊢
    split at h
    · rw [← dst_put hf]; exact hn _ _ h
    · rw [← dst_put hf]; exact hn _ _ h
    · have := hn _ _ h
      rw [dst_put hf] at this
      cases d <;> exact this
    · refine Calls.mono h fun e w' h => ?_
      cases e with
      | returned x => simp only at h ⊢; rw [← dst_put hf]; exact hn _ _ h
      | panicked chain => exact h.elim
      | outgrown => obtain ⟨_, _, h⟩ := h; exact h.elim
    · exact Rows.mono h fun x w' h => by rw [← dst_put hf]; exact hn _ _ h
    · exact h.elim
    · exact h.elim
/-- The other way round. -/
theorem stepK_unput {d : Option Nat} {v : Value} (hf : freeOf ops o d = true) (h : stepK P o (a.put d v) w next) : stepK P o a w (fun a₁ w₁ => next (a₁.put d v) w₁) := by
  unfold stepK at h ⊢
  split at h
  · obtain ⟨x, hr, h⟩ := h
    refine ⟨x, fun w' => by have := hr w'; rw [exec_put hf] at this; exact this, ?_⟩
    simp only
    rw [dst_put hf]
    exact h
  · obtain ⟨x, hr, h⟩ := h
    refine ⟨x, by rw [exec_put hf] at hr; exact hr, ?_⟩
    simp only
    rw [dst_put hf]
    exact h
  · unfold Oper.wp at h ⊢
    rw [exec_put hf] at h
    unfold Oper.upon at h ⊢
    split at h
    · rw [dst_put hf]; exact h
    · rw [dst_put hf]; exact h
    · rw [dst_put hf]
      cases d <;> exact h
    · refine Calls.mono h fun e w' h => ?_
      cases e with
      | returned x => simp only at h ⊢; rw [dst_put hf]; exact h
      | panicked chain => exact h.elim
      | outgrown => obtain ⟨_, _, h⟩ := h; exact h.elim
    · exact Rows.mono h fun x w' h => by simp only; rw [dst_put hf]; exact h
    · exact h.elim
    · exact h.elim
/-- What a step says, with what it may have turned. -/
theorem stepK_shape (h : stepK P o a w next) : stepK P o a w (fun a₁ w₁ => next a₁ w₁ ∧ ∃ v, a₁.tmps = (a.put o.dst v).tmps) := by
  unfold stepK at h ⊢
  split at h
  · obtain ⟨x, hr, h⟩ := h; exact ⟨x, hr, h, x, rfl⟩
  · obtain ⟨x, hr, h⟩ := h; exact ⟨x, hr, h, x, rfl⟩
  · unfold Oper.wp at h ⊢
    unfold Oper.upon at h ⊢
    split at h
    · exact ⟨h, _, rfl⟩
    · exact ⟨h, _, rfl⟩
    · refine ⟨h, undef, ?_⟩
      cases o.dst <;> rfl
    · refine Calls.mono h fun e w' h => ?_
      cases e with
      | returned x => exact ⟨h, x, rfl⟩
      | panicked chain => exact h.elim
      | outgrown => obtain ⟨_, _, h⟩ := h; exact h.elim
    · exact Rows.mono h fun x w' h => ⟨h, x, rfl⟩
    · exact h.elim
    · exact h.elim
/-- A step that succeeds comes somewhere. -/
theorem stepK_some (h : stepK P o a w next) : ∃ a₁ w₁, next a₁ w₁ := by
  unfold stepK at h
  split at h
  · obtain ⟨x, hr, h⟩ := h; exact ⟨_, _, h⟩
  · obtain ⟨x, hr, h⟩ := h; exact ⟨_, _, h⟩
  · unfold Oper.wp at h
    unfold Oper.upon at h
    split at h
    · exact ⟨_, _, h⟩
    · exact ⟨_, _, h⟩
    · exact ⟨_, _, h⟩
    · obtain ⟨e, w', fr, h, _⟩ := h []
      cases e with
      | returned x => exact ⟨_, _, h⟩
      | panicked chain => exact h.elim
      | outgrown => obtain ⟨_, _, h⟩ := h; exact h.elim
    · obtain ⟨v, w', h, _⟩ := h default []
      exact ⟨_, _, h⟩
    · exact h.elim
    · exact h.elim
theorem tmps_eval {a b : Act} (h : a.tmps = b.tmps) : a.eval = b.eval := by
  funext x
  cases x with
  | tmp t => show a.tmps.getD t undef = b.tmps.getD t undef; rw [h]
  | _ => rfl
end
end Go.Gx

/-
  Gx27: a region whose order the model draws: the text's order speaks for all.
  Conditions: none; laws on the model's schedules.
-/
namespace Go.Gx
open Go

section
variable {P : Program} {ops : Array Oper} {o o₁ o₂ : Oper} {a : Act} {w : World} {next next' K : Act → World → Prop}
theorem stepK_pure' (hc : opClass o.op = .pure) (h : stepK P o a w next) : PWP P o a w next := by unfold stepK at h; rw [hc] at h; exact h
theorem stepK_read' (hc : opClass o.op = .read) (h : stepK P o a w next) : RWP P o a w next := by unfold stepK at h; rw [hc] at h; exact h
theorem wanted_tmps {a b : Act} (h : a.tmps = b.tmps) : Region.wanted o (yielded ops a.tmps) = Region.wanted o (yielded ops b.tmps) := by rw [h]
theorem commF_ok (h : commF ops o₁ o₂ = true) : freeOf ops o₂ o₁.dst = true ∧ freeOf ops o₁ o₂.dst = true := by
  simp only [commF, Bool.and_eq_true] at h
  exact ⟨h.1.1.1, h.1.1.2⟩
theorem put_put_comm (h : freeOf ops o₂ o₁.dst = true) {x y : Value} : (a.put o₁.dst x).put o₂.dst y = (a.put o₂.dst y).put o₁.dst x := (dst_put (o := o₂) h).symm
/-- Two operations that no edge orders may be swapped. -/
theorem swap_core (h1 : freeOf ops o₂ o₁.dst = true) (h2 : freeOf ops o₁ o₂.dst = true) (hcl : clsOK (opClass o₁.op) (opClass o₂.op) = true) (h : stepK P o₁ a w (fun a w => stepK P o₂ a w K)) : stepK P o₂ a w (fun a w => stepK P o₁ a w K) := by
  have hs : stepK P o₁ a w (fun a₁ w₁ => stepK P o₂ a₁ w₁ K ∧ ∃ v, a₁.tmps = (a.put o₁.dst v).tmps) := stepK_shape h
  by_cases hp1 : opClass o₁.op = .pure
  · obtain ⟨v, hr, hn⟩ := stepK_pure' hp1 h
    refine stepK_mono (stepK_shape (stepK_unput h1 hn)) fun a₂ w₂ hh => ?_
    obtain ⟨hh, hv⟩ := hh
    obtain ⟨y, hy⟩ := hv
    have he : execOp a₂.eval o₁ = execOp a.eval o₁ := by rw [tmps_eval hy, exec_put h2]
    have hp : ∀ w', (execOp a₂.eval o₁).run P w' = .ok (.value v) w' := fun w' => by rw [he]; exact hr w'
    exact stepK_pure hp1 ⟨v, hp, hh⟩
  · by_cases hp2 : opClass o₂.op = .pure
    · -- the second hangs on no world
      obtain ⟨a₀, w₀, h0, v0, hv0⟩ := stepK_some hs
      obtain ⟨y, hy, _⟩ := stepK_pure' hp2 h0
      have he0 : execOp a₀.eval o₂ = execOp a.eval o₂ := by rw [tmps_eval hv0, exec_put h1]
      have hy' : ∀ w', (execOp a.eval o₂).run P w' = .ok (.value y) w' := fun w' => by rw [← he0]; exact hy w'
      refine stepK_pure hp2 ⟨y, hy', ?_⟩
      dsimp only
      refine stepK_put h2 (next := fun a₁ w₁ => K (a₁.put o₂.dst y) w₁) (stepK_mono hs fun a₁ w₁ hh => ?_) (fun _ _ hh => hh)
      obtain ⟨hh, v, hv⟩ := hh
      obtain ⟨y2, hy2, hh⟩ := stepK_pure' hp2 hh
      have he : execOp a₁.eval o₂ = execOp a.eval o₂ := by rw [tmps_eval hv, exec_put h1]
      have : y2 = y := by
        have h3 := hy2 w₁
        rw [he, hy' w₁] at h3
        simpa using h3.symm
      rw [this] at hh
      exact hh
    · -- both read
      have hr1 : opClass o₁.op = .read := by
        cases h3 : opClass o₁.op <;> cases h4 : opClass o₂.op <;> simp_all [clsOK]
      have hr2 : opClass o₂.op = .read := by
        cases h3 : opClass o₁.op <;> cases h4 : opClass o₂.op <;> simp_all [clsOK]
      obtain ⟨v, hv, hh⟩ := stepK_read' hr1 h
      obtain ⟨y, hy, hh⟩ := stepK_read' hr2 hh
      rw [exec_put h1] at hy
      refine stepK_read hr2 ⟨y, hy, ?_⟩
      dsimp only
      refine stepK_read hr1 ⟨v, by rw [exec_put h2]; exact hv, ?_⟩
      rw [put_put_comm h1] at hh
      exact hh
/-- Where an operation does not turn the world. -/
theorem stepK_world (hc : opClass o.op ≠ .other) (h : stepK P o a w next) : stepK P o a w (fun a₁ w₁ => w₁ = w ∧ next a₁ w₁) := by
  unfold stepK at h ⊢
  split at h
  · obtain ⟨v, hv, hn⟩ := h; exact ⟨v, hv, rfl, hn⟩
  · obtain ⟨v, hv, hn⟩ := h; exact ⟨v, hv, rfl, hn⟩
  · rename_i h'; exact (hc h').elim

/-! ### Steps with a law of the world -/
inductive Cl where
  | plain | old | fresh
def clM (ops : Array Oper) (i : Nat) (o : Oper) : Cl := if oldI ops i o then .old else if freshI ops i o then .fresh else .plain
def stepM (P : Program) (I : World → Prop) (c : Cl) (o : Oper) (a : Act) (w : World) (next : Act → World → Prop) : Prop :=
  match c with
  | .plain => stepK P o a w next
  | .old => I w ∧ ∃ v, (∀ w', I w' → (execOp a.eval o).run P w' = .ok (.value v) w') ∧ next (a.put o.dst v) w
  | .fresh => stepK P o a w (fun a' w' => I w' ∧ next a' w')
def stepN (P : Program) (I : World → Prop) (c : Cl) (ops : Array Oper) (o : Oper) (a : Act) (w : World) (next : Act → World → Prop) : Prop :=
  if Region.wanted o (yielded ops a.tmps) then stepM P I c o a w next else next (a.put o.dst undef) w
def okM (P : Program) (I : World → Prop) (ops : Array Oper) (next : Act → World → Prop) : List Nat → Act → World → Prop
  | [], a, w => next a w
  | i :: r, a, w => match ops[i]? with
    | none => okM P I ops next r a w
    | some o => stepN P I (clM ops i o) ops o a w (okM P I ops next r)
variable {I : World → Prop} {c c₁ c₂ : Cl}
theorem stepM_mono (h : stepM P I c o a w next) (hn : ∀ a w, next a w → next' a w) : stepM P I c o a w next' := by
  cases c with
  | plain => exact stepK_mono h hn
  | old => obtain ⟨hI, v, hv, h⟩ := h; exact ⟨hI, v, hv, hn _ _ h⟩
  | fresh => exact stepK_mono h fun a w h => ⟨h.1, hn _ _ h.2⟩
theorem stepN_mono (h : stepN P I c ops o a w next) (hn : ∀ a w, next a w → next' a w) : stepN P I c ops o a w next' := by
  unfold stepN at h ⊢
  split at h
  · rename_i hw; rw [if_pos hw]; exact stepM_mono h hn
  · rename_i hw; rw [if_neg hw]; exact hn _ _ h
theorem stepM_put {d : Option Nat} {v : Value} (hf : freeOf ops o d = true) (h : stepM P I c o a w next) (hn : ∀ a₁ w₁, next a₁ w₁ → next' (a₁.put d v) w₁) : stepM P I c o (a.put d v) w next' := by
  cases c with
  | plain => exact stepK_put hf h hn
  | old =>
    obtain ⟨hI, x, hx, h⟩ := h
    refine ⟨hI, x, by rw [exec_put hf]; exact hx, ?_⟩
    rw [← dst_put hf]
    exact hn _ _ h
  | fresh => exact stepK_put hf h fun a₁ w₁ h => ⟨h.1, hn _ _ h.2⟩
theorem stepM_unput {d : Option Nat} {v : Value} (hf : freeOf ops o d = true) (h : stepM P I c o (a.put d v) w next) : stepM P I c o a w (fun a₁ w₁ => next (a₁.put d v) w₁) := by
  cases c with
  | plain => exact stepK_unput hf h
  | old =>
    obtain ⟨hI, x, hx, h⟩ := h
    refine ⟨hI, x, by rw [exec_put hf] at hx; exact hx, ?_⟩
    simp only
    rw [dst_put hf]
    exact h
  | fresh => exact stepK_unput hf h
theorem stepM_shape (h : stepM P I c o a w next) : stepM P I c o a w (fun a₁ w₁ => next a₁ w₁ ∧ ∃ v, a₁.tmps = (a.put o.dst v).tmps) := by
  cases c with
  | plain => exact stepK_shape h
  | old => obtain ⟨hI, x, hx, h⟩ := h; exact ⟨hI, x, hx, h, x, rfl⟩
  | fresh => exact stepK_mono (stepK_shape h) fun a w h => ⟨h.1.1, h.1.2, h.2⟩
theorem stepM_I (hc : c ≠ .plain ∨ opClass o.op ≠ .other) (hI : I w) (h : stepM P I c o a w next) : stepM P I c o a w (fun a₁ w₁ => I w₁ ∧ next a₁ w₁) := by
  cases c with
  | plain =>
    rcases hc with hc | hc
    · exact (hc rfl).elim
    · exact stepK_mono (stepK_world hc h) fun a₁ w₁ h => ⟨h.1 ▸ hI, h.2⟩
  | old => obtain ⟨hI, x, hx, h⟩ := h; exact ⟨hI, x, hx, hI, h⟩
  | fresh => exact stepK_mono h fun a w h => ⟨h.1, h.1, h.2⟩
/-- What is known of two steps' classes where they may be swapped. -/
structure Swp (c₁ c₂ : Cl) (o₁ o₂ : Oper) : Prop where
  old1 : c₁ = .old → c₂ ≠ .plain ∨ opClass o₂.op ≠ .other
  cls : c₁ ≠ .old → clsOK (opClass o₁.op) (opClass o₂.op) = true
  old2 : c₂ = .old → c₁ ≠ .old → c₁ = .plain ∧ opClass o₁.op ≠ .other
  fr1 : c₁ = .fresh → opClass o₁.op = .other
  fr2 : c₂ = .fresh → opClass o₂.op = .other
theorem swapM (h1 : freeOf ops o₂ o₁.dst = true) (h2 : freeOf ops o₁ o₂.dst = true) (hs : Swp c₁ c₂ o₁ o₂) (h : stepM P I c₁ o₁ a w (fun a w => stepM P I c₂ o₂ a w K)) : stepM P I c₂ o₂ a w (fun a w => stepM P I c₁ o₁ a w K) := by
  by_cases hc1 : c₁ = .old
  · subst hc1
    obtain ⟨hI, v, hv, hn⟩ := h
    refine stepM_mono (stepM_shape (stepM_I (hs.old1 rfl) hI (stepM_unput h1 hn))) fun a₁ w₁ hh => ?_
    obtain ⟨⟨hI₁, hk⟩, y, hy⟩ := hh
    have he : execOp a₁.eval o₁ = execOp a.eval o₁ := by rw [tmps_eval hy, exec_put h2]
    exact ⟨hI₁, v, by rw [he]; exact hv, hk⟩
  · have hcl := hs.cls hc1
    by_cases hc2 : c₂ = .old
    · subst hc2
      obtain ⟨rfl, hno⟩ := hs.old2 rfl hc1
      have h : stepK P o₁ a w (fun a w => stepM P I .old o₂ a w K) := h
      have go : ∀ v, stepM P I .old o₂ (a.put o₁.dst v) w K → (∀ y, K ((a.put o₂.dst y).put o₁.dst v) w → stepK P o₁ (a.put o₂.dst y) w K) → stepM P I .old o₂ a w (fun a w => stepM P I .plain o₁ a w K) := by
        rintro v ⟨hI, y, hy, hn⟩ hk
        refine ⟨hI, y, by rw [exec_put h1] at hy; exact hy, ?_⟩
        rw [put_put_comm h1] at hn
        exact hk y hn
      cases hc : opClass o₁.op with
      | other => exact (hno hc).elim
      | pure =>
        obtain ⟨v, hv, hn⟩ := stepK_pure' hc h
        exact go v hn fun y hk => stepK_pure hc ⟨v, by rw [exec_put h2]; exact hv, hk⟩
      | read =>
        obtain ⟨v, hv, hn⟩ := stepK_read' hc h
        exact go v hn fun y hk => stepK_read hc ⟨v, by rw [exec_put h2]; exact hv, hk⟩
    · cases c₁ with
      | old => exact (hc1 rfl).elim
      | fresh =>
        have ho := hs.fr1 rfl
        have hp : opClass o₂.op = .pure := by
          rw [ho] at hcl
          cases h3 : opClass o₂.op <;> simp_all [clsOK]
        cases c₂ with
        | old => exact (hc2 rfl).elim
        | fresh => rw [hs.fr2 rfl] at hp; cases hp
        | plain =>
          have h : stepK P o₁ a w (fun a w => I w ∧ stepK P o₂ a w K) := h
          have h3 : stepK P o₁ a w (fun a w => stepK P o₂ a w (fun a w => I w ∧ K a w)) := stepK_mono h fun a₁ w₁ hh =>
            stepK_mono (stepK_world (by rw [hp]; simp) hh.2) fun a₂ w₂ hk => ⟨hk.1 ▸ hh.1, hk.2⟩
          exact swap_core h1 h2 hcl h3
      | plain =>
        cases c₂ with
        | old => exact (hc2 rfl).elim
        | plain => exact swap_core h1 h2 hcl h
        | fresh =>
          have ho := hs.fr2 rfl
          have hp : opClass o₁.op = .pure := by
            rw [ho] at hcl
            cases h3 : opClass o₁.op <;> simp_all [clsOK]
          have h : stepK P o₁ a w (fun a w => stepK P o₂ a w (fun a w => I w ∧ K a w)) := h
          have h3 := swap_core h1 h2 hcl h
          refine stepK_mono h3 fun a₁ w₁ hh => ?_
          obtain ⟨v, hv, hI, hk⟩ := stepK_pure' hp hh
          exact ⟨hI, stepK_pure hp ⟨v, hv, hk⟩⟩
theorem swapN (h1 : freeOf ops o₂ o₁.dst = true) (h2 : freeOf ops o₁ o₂.dst = true) (hs : Swp c₁ c₂ o₁ o₂) (h : stepN P I c₁ ops o₁ a w (fun a w => stepN P I c₂ ops o₂ a w K)) : stepN P I c₂ ops o₂ a w (fun a w => stepN P I c₁ ops o₁ a w K) := by
  unfold stepN at h
  unfold stepN
  by_cases w1 : Region.wanted o₁ (yielded ops a.tmps) = true
  · rw [if_pos w1] at h
    by_cases w2 : Region.wanted o₂ (yielded ops a.tmps) = true
    · rw [if_pos w2]
      have hm : stepM P I c₁ o₁ a w (fun a w => stepM P I c₂ o₂ a w K) := stepM_mono (stepM_shape h) fun a₁ w₁ hh => by
        obtain ⟨hh, v, hv⟩ := hh
        rw [if_pos (by rw [hv, wanted_put h1]; exact w2)] at hh
        exact hh
      refine stepM_mono (stepM_shape (swapM h1 h2 hs hm)) fun a₂ w₂ hh => ?_
      obtain ⟨hh, v, hv⟩ := hh
      rw [if_pos (by rw [hv, wanted_put h2]; exact w1)]
      exact hh
    · rw [if_neg w2]
      try dsimp only
      rw [if_pos (by rw [wanted_put h2]; exact w1)]
      refine stepM_put h2 (stepM_shape h) fun a₁ w₁ hh => ?_
      obtain ⟨hh, v, hv⟩ := hh
      rw [if_neg (by rw [hv, wanted_put h1]; exact w2)] at hh
      exact hh
  · rw [if_neg w1] at h
    by_cases w2 : Region.wanted o₂ (yielded ops a.tmps) = true
    · rw [if_pos w2]
      try dsimp only at h
      rw [if_pos (by rw [wanted_put h1]; exact w2)] at h
      refine stepM_mono (stepM_shape (stepM_unput h1 h)) fun a₂ w₂ hh => ?_
      obtain ⟨hh, v, hv⟩ := hh
      rw [if_neg (by rw [hv, wanted_put h2]; exact w1)]
      exact hh
    · rw [if_neg w2]
      (try dsimp only at h); (try dsimp only)
      rw [if_neg (by rw [wanted_put h1]; exact w2)] at h
      rw [if_neg (by rw [wanted_put h2]; exact w1)]
      rw [put_put_comm h1] at h
      exact h
theorem oldI_cls {i : Nat} (h : oldI ops i o = true) : opClass o.op = .read ∧ ∀ k p, k < i → ops[k]? = some p → opClass p.op ≠ .other := by
  simp only [oldI, Bool.and_eq_true, allTo, List.all_eq_true, Bool.not_eq_true'] at h
  refine ⟨?_, fun k p hk hp hc => ?_⟩
  · have := h.1
    unfold isRead at this
    split at this
    · assumption
    · cases this
  · have hm : p ∈ ops.toList.take i := List.mem_of_getElem? (i := k) (by rw [List.getElem?_take, if_pos hk]; simpa using hp)
    have := h.2 p hm
    simp [isOther, hc] at this
theorem freshI_cls {i : Nat} (h : freshI ops i o = true) : opClass o.op = .other := by
  simp only [freshI, Bool.and_eq_true] at h
  have := h.1
  unfold isOther at this
  split at this
  · assumption
  · cases this
theorem clM_old {i : Nat} (h : clM ops i o = .old) : oldI ops i o = true := by
  unfold clM at h
  split at h
  · assumption
  · split at h <;> cases h
theorem clM_fresh {i : Nat} (h : clM ops i o = .fresh) : freshI ops i o = true := by
  unfold clM at h
  split at h
  · cases h
  · split at h
    · assumption
    · cases h
theorem swp_of {j i : Nat} (hji : j < i) (hj : ops[j]? = some o₁) (h : clsOK (opClass o₁.op) (opClass o₂.op) = true ∨ (oldI ops j o₁ = true ∧ freshI ops i o₂ = true)) : Swp (clM ops j o₁) (clM ops i o₂) o₁ o₂ := by
  refine ⟨fun hc => ?_, fun hc => ?_, fun hc hc' => ?_, fun hc => freshI_cls (clM_fresh hc), fun hc => freshI_cls (clM_fresh hc)⟩
  · rcases h with h | h
    · right
      intro ho
      rw [(oldI_cls (clM_old hc)).1, ho] at h
      simp [clsOK] at h
    · left
      intro hp
      have h1 := freshI_cls h.2
      unfold clM at hp
      rw [if_neg (fun h3 => by have := (oldI_cls h3).1; rw [h1] at this; cases this), if_pos h.2] at hp
      cases hp
  · rcases h with h | h
    · exact h
    · exfalso
      apply hc
      unfold clM
      rw [if_pos h.1]
  · have h1 := (oldI_cls (clM_old hc)).2 j o₁ hji hj
    refine ⟨?_, h1⟩
    cases h2 : clM ops j o₁ with
    | plain => rfl
    | old => exact (hc' h2).elim
    | fresh => exact (h1 (freshI_cls (clM_fresh h2))).elim
theorem swap_okM {j i : Nat} {r : List Nat} (hji : j < i) (hc : commX ops j i = true) (h : okM P I ops next (j :: i :: r) a w) : okM P I ops next (i :: j :: r) a w := by
  unfold commX at hc
  cases hj : ops[j]? with
  | none =>
    simp only [okM, hj] at h ⊢
    cases hi : ops[i]? with
    | none => simp only [hi] at h ⊢; exact h
    | some o => simp only [hi] at h ⊢; exact h
  | some o₁ =>
    cases hi : ops[i]? with
    | none => simp only [okM, hi, hj] at h ⊢; exact h
    | some o₂ =>
      rw [hj, hi] at hc
      simp only [Bool.and_eq_true, Bool.or_eq_true] at hc
      obtain ⟨h1, h2⟩ := commF_ok hc.1
      simp only [okM, hi, hj] at h ⊢
      exact swapN h1 h2 (swp_of hji hj hc.2) h
/-- A number comes to the front over those it may be swapped with. -/
theorem front_okM {i : Nat} {r : List Nat} : ∀ {l : List Nat} {a : Act} {w : World}, (∀ j, j ∈ l → j < i ∧ commX ops j i = true) → okM P I ops next (l ++ i :: r) a w → okM P I ops next (i :: (l ++ r)) a w
  | [], _, _, _, h => h
  | j :: l, a, w, hc, h => by
    have h1 : okM P I ops next (j :: i :: (l ++ r)) a w := by
      simp only [List.cons_append] at h
      unfold okM at h ⊢
      split at h
      · exact front_okM (fun k hk => hc k (List.mem_cons_of_mem _ hk)) h
      · exact stepN_mono h fun a w h => front_okM (fun k hk => hc k (List.mem_cons_of_mem _ hk)) h
    exact swap_okM (hc j (List.mem_cons_self ..)).1 (hc j (List.mem_cons_self ..)).2 h1
theorem tail_okM {i : Nat} {l l' : List Nat} (hl : ∀ a w, okM P I ops next l a w → okM P I ops next l' a w) (h : okM P I ops next (i :: l) a w) : okM P I ops next (i :: l') a w := by
  unfold okM at h ⊢
  split at h
  · exact hl _ _ h
  · exact stepN_mono h hl
theorem stepM_wp {Q : Exit → Act → World → Prop} (h : stepM P I c o a w next) : o.wp P a w next Q := by
  cases c with
  | plain => exact stepK_wp h
  | fresh => exact stepK_wp (stepK_mono h fun _ _ h => h.2)
  | old =>
    obtain ⟨hI, v, hv, h⟩ := h
    exact wp_value (hv w hI) h
theorem okM_wpOps {Q : Exit → Act → World → Prop} : ∀ {l : List Nat} {a : Act} {w : World}, okM P I ops (Q .normal) l a w → wpOps P ops Q l a w
  | [], _, _, h => h
  | i :: r, a, w, h => by
    unfold okM at h
    unfold wpOps
    split at h
    · rename_i ho
      rw [ho]
      exact okM_wpOps h
    · rename_i o ho
      rw [ho]
      simp only
      unfold stepN at h
      split at h
      · rename_i hw
        rw [if_pos hw]
        exact .inl (stepM_wp (stepM_mono h fun a w h => okM_wpOps h))
      · rename_i hw
        rw [if_neg hw]
        exact okM_wpOps h
end
end Go.Gx

/-
  Gx28: a region whose order the model draws: the text's order speaks for every schedule.
  Conditions: none; laws on the model's schedules.
-/
namespace Go.Gx
open Go

theorem mem_dd {x : Nat} : ∀ {l : List Nat}, x ∈ dd l ↔ x ∈ l
  | [] => Iff.rfl
  | y :: l => by
    have e : dd (y :: l) = if (dd l).contains y then dd l else y :: dd l := rfl
    rw [e]
    split
    · rename_i h
      simp only [List.contains_eq_mem, decide_eq_true_eq] at h
      rw [mem_dd, List.mem_cons]
      constructor
      · exact .inr
      · rintro (rfl | h')
        · exact mem_dd.1 h
        · exact h'
    · rw [List.mem_cons, List.mem_cons, mem_dd]
/-- What a table of predecessors says. -/
def TabOK (ops : List Oper) (T : List (List Nat)) : Prop := ∀ i j, j ∈ T.getD i [] → ∃ o, ops[i]? = some o ∧ (j ∈ dirs o ∨ ∃ k, k ∈ dirs o ∧ j ∈ T.getD k [])
theorem closR_ok (ops : List Oper) : ∀ (r : List Oper) (acc : List (List Nat)), (∀ i, r[i]? = ops[acc.length + i]?) → TabOK ops acc → TabOK ops (closR r acc)
  | [], acc, _, h => h
  | o :: r, acc, hr, h => by
    refine closR_ok ops r _ (fun i => ?_) ?_
    · have := hr (i + 1)
      simp only [List.getElem?_cons_succ] at this
      rw [this]
      congr 1
      simp
      omega
    · have h0 : ops[acc.length]? = some o := by simpa using (hr 0).symm
      have old : ∀ k j, j ∈ acc.getD k [] → j ∈ (acc ++ [dd (dirs o ++ (dirs o).flatMap fun k => acc.getD k [])]).getD k [] := by
        intro k j hj
        have hk : k < acc.length := by
          rcases Nat.lt_or_ge k acc.length with h | h
          · exact h
          · simp [List.getD, List.getElem?_eq_none h] at hj
        simp only [List.getD, List.getElem?_append_left hk]
        exact hj
      intro i j hj
      by_cases hi : i < acc.length
      · simp only [List.getD, List.getElem?_append_left hi] at hj
        obtain ⟨o', h1, h2⟩ := h i j hj
        exact ⟨o', h1, h2.imp id fun ⟨k, h3, h4⟩ => ⟨k, h3, old k j h4⟩⟩
      · by_cases hi' : i = acc.length
        · subst hi'
          have : j ∈ dirs o ++ (dirs o).flatMap fun k => acc.getD k [] := by
            rw [← mem_dd]
            simpa [List.getD] using hj
          refine ⟨o, h0, ?_⟩
          rcases List.mem_append.1 this with h1 | h1
          · exact .inl h1
          · obtain ⟨k, h2, h3⟩ := List.mem_flatMap.1 h1
            exact .inr ⟨k, h2, old k j h3⟩
        · have : (acc ++ [dd (dirs o ++ (dirs o).flatMap fun k => acc.getD k [])])[i]? = none := List.getElem?_eq_none (by simp; omega)
          rw [List.getD_eq_getElem?_getD, this] at hj
          simp at hj

section
variable {P : Program} {ops : Array Oper} {a : Act} {w : World} {next : Act → World → Prop} {I : World → Prop}
def Closed (ops : Array Oper) (listed : Array Bool) : Prop := ∀ i o, listed.getD i false = true → ops[i]? = some o → ∀ k, k ∈ dirs o → listed.getD k false = true
theorem binds_any {m : Region.Mode} {e : Edge} (h : Region.binds .any e = true) : Region.binds m e = true := by
  unfold Region.binds at h ⊢
  split at h <;> simp_all
theorem dirs_mem {o : Oper} {k : Nat} (h : k ∈ dirs o) : ∃ e, e ∈ o.after.toList ∧ Region.binds .any e = true ∧ e.on = k := by
  simp only [dirs, List.mem_map, List.mem_filter] at h
  obtain ⟨e, ⟨h1, h2⟩, h3⟩ := h
  exact ⟨e, h1, h2, h3⟩
theorem pairs_on (hp : pairsOK ops = true) {i : Nat} {o : Oper} (ho : ops[i]? = some o) : (∀ k, k ∈ dirs o → k < i) ∧ ∀ j, j < i → j ∈ (closR ops.toList []).getD i [] ∨ commX ops j i = true := by
  have hi : i < ops.size := (Array.getElem?_eq_some_iff.1 ho).1
  unfold pairsOK at hp
  simp only [Bool.and_eq_true] at hp
  have := List.all_eq_true.1 hp.1 i (List.mem_range.2 hi)
  rw [ho] at this
  simp only [Bool.and_eq_true, List.all_eq_true, decide_eq_true_eq, Bool.or_eq_true, List.contains_eq_mem, List.mem_range] at this
  exact ⟨fun k hk => Nat.le_of_ble_eq_true (this.1 k hk), this.2⟩
theorem flows_on (hp : pairsOK ops = true) (m : Region.Mode) : ∃ L, topoB m ops [] L = true ∧ (∀ i, i < ops.size → i ∈ L) ∧ ∀ k, k ∈ L → k < ops.size := by
  unfold pairsOK at hp
  simp only [Bool.and_eq_true] at hp
  have key : ∀ m, flowsB m ops = true → ∃ L, topoB m ops [] L = true ∧ (∀ i, i < ops.size → i ∈ L) ∧ ∀ k, k ∈ L → k < ops.size := by
    intro m h
    unfold flowsB flowsL at h
    simp only [Bool.and_eq_true, List.all_eq_true, List.mem_range, List.contains_eq_mem, decide_eq_true_eq] at h
    exact ⟨_, h.1, h.2.1, fun k hk => Nat.le_of_ble_eq_true (h.2.2 k hk)⟩
  cases m with
  | text => exact key _ hp.2.1
  | gc => exact key _ hp.2.2.1
  | any => exact key _ hp.2.2.2
theorem topo_ready {m : Region.Mode} {listed : Array Bool} : ∀ {L seen : List Nat}, topoB m ops seen L = true → (∀ x, x ∈ seen → listed.getD x false = true) → (∃ i, i ∈ L ∧ listed.getD i false = false) →
    ∃ k, k ∈ L ∧ listed.getD k false = false ∧ ∀ o, ops[k]? = some o → ∀ e, e ∈ o.after.toList → Region.binds m e = true → listed.getD e.on false = true
  | [], _, _, _, ⟨_, h, _⟩ => by simp at h
  | i :: L, seen, ht, hs, ⟨j, hj, hu⟩ => by
    unfold topoB at ht
    simp only [Bool.and_eq_true] at ht
    cases hi : listed.getD i false with
    | false =>
      refine ⟨i, List.mem_cons_self .., hi, fun o ho e he hb => ?_⟩
      have h1 := ht.1
      unfold readyB at h1
      rw [ho] at h1
      have := List.all_eq_true.1 h1 e he
      rw [hb] at this
      exact hs _ (by simpa using this)
    | true =>
      obtain ⟨k, h1, h2⟩ := topo_ready (L := L) (seen := i :: seen) ht.2 (fun x hx => by
        rcases List.mem_cons.1 hx with rfl | hx
        · exact hi
        · exact hs x hx) (by
        rcases List.mem_cons.1 hj with rfl | hj
        · rw [hi] at hu; cases hu
        · exact ⟨j, hj, hu⟩)
      exact ⟨k, List.mem_cons_of_mem _ h1, h2⟩
theorem tab_listed (hp : pairsOK ops = true) {listed : Array Bool} (hc : Closed ops listed) : ∀ (n i : Nat), i < n → (∀ o, ops[i]? = some o → ∀ k, k ∈ dirs o → listed.getD k false = true) → ∀ j, j ∈ (closR ops.toList []).getD i [] → listed.getD j false = true
  | 0, _, h, _, _, _ => by omega
  | n + 1, i, hi, hd, j, hj => by
    obtain ⟨o, ho, h⟩ := closR_ok ops.toList ops.toList [] (by simp) (by intro i j h; simp [List.getD] at h) i j hj
    have ho' : ops[i]? = some o := by simpa using ho
    rcases h with h | ⟨k, hk, h⟩
    · exact hd o ho' j h
    · have hkl := hd o ho' k hk
      have hlt := (pairs_on hp ho').1 k hk
      exact tab_listed hp hc n k (by omega) (fun o' ho'' k' hk' => hc k o' hkl ho'' k' hk') j h
/-- The numbers not yet listed, in the order of the text. -/
def left (ops : Array Oper) (listed : Array Bool) : List Nat := (List.range ops.size).filter fun i => !listed.getD i true
theorem go_ok (hp : pairsOK ops = true) (m : Region.Mode) : ∀ (fuel t : Nat) (listed : Array Bool) (acc : List Nat), listed.size = ops.size → Closed ops listed → (left ops listed).length ≤ fuel →
    ∃ suf, Region.linearise.go m ops fuel t listed acc = acc.reverse ++ suf ∧ ∀ a w, okM P I ops next (left ops listed) a w → okM P I ops next suf a w
  | 0, t, listed, acc, _, _, hl => by
    have : left ops listed = [] := List.eq_nil_of_length_eq_zero (by omega)
    rw [this]
    exact ⟨[], by simp [Region.linearise.go], fun _ _ h => h⟩
  | fuel + 1, t, listed, acc, hsz, hc, hl => by
    unfold Region.linearise.go
    simp only
    generalize hrs : ((List.range ops.size).filter fun i => !listed.getD i true && ((ops[i]?).map (·.after.all fun e => !Region.binds m e || listed.getD e.on false)).getD false) = rs
    have mem_left : ∀ i, i ∈ left ops listed ↔ i < ops.size ∧ listed.getD i true = false := by
      intro i
      simp [left, List.mem_filter]
    have getD_eq : ∀ i, i < ops.size → listed.getD i true = listed.getD i false := by
      intro i hi
      simp [Array.getD_eq_getD_getElem?, hsz, hi]
    have sorted : (left ops listed).Pairwise (· < ·) := List.Pairwise.filter _ List.pairwise_lt_range
    cases hi : rs[t % rs.length]? with
    | none =>
      have hrs0 : rs = [] := by
        rcases Nat.eq_zero_or_pos rs.length with h | h
        · exact List.eq_nil_of_length_eq_zero h
        · have := Nat.mod_lt t h
          rw [List.getElem?_eq_none_iff] at hi
          omega
      have : left ops listed = [] := by
        cases hle : left ops listed with
        | nil => rfl
        | cons i r =>
          exfalso
          have him : i ∈ left ops listed := by rw [hle]; exact List.mem_cons_self ..
          obtain ⟨hin, hiu⟩ := (mem_left i).1 him
          obtain ⟨L, hL1, hL2, hL3⟩ := flows_on hp m
          obtain ⟨k, hk1, hk2, hk3⟩ := topo_ready (listed := listed) hL1 (by simp) ⟨i, hL2 i hin, by rw [← getD_eq i hin]; exact hiu⟩
          have hmem : k ∈ rs := by
            have hkn : k < ops.size := hL3 k hk1
            rw [← hrs, List.mem_filter]
            refine ⟨List.mem_range.2 hkn, ?_⟩
            have ho : ops[k]? = some ops[k] := by simp [hkn]
            have hku : listed.getD k true = false := by rw [getD_eq k hkn]; exact hk2
            simp only [hku, Bool.not_false, Bool.true_and, ho, Option.map_some, Option.getD_some]
            rw [Array.all_eq_true']
            intro e he
            cases hb : Region.binds m e with
            | false => rfl
            | true => simpa using hk3 _ ho e (by simpa using he) hb
          rw [hrs0] at hmem
          simp at hmem
      rw [this]
      exact ⟨[], by simp, fun _ _ h => h⟩
    | some i =>
      simp only
      have hmem : i ∈ rs := List.mem_of_getElem? hi
      rw [← hrs, List.mem_filter] at hmem
      obtain ⟨hin, hcond⟩ := hmem
      have hin := List.mem_range.1 hin
      have ho : ops[i]? = some ops[i] := by simp [hin]
      simp only [Bool.and_eq_true, Bool.not_eq_true', ho, Option.map_some, Option.getD_some] at hcond
      obtain ⟨hiu, hedges⟩ := hcond
      rw [Array.all_eq_true'] at hedges
      have hdirs : ∀ k, k ∈ dirs ops[i] → listed.getD k false = true := by
        intro k hk
        obtain ⟨e, he, hb, rfl⟩ := dirs_mem hk
        have := hedges e (by simpa using he)
        rw [binds_any hb] at this
        simpa using this
      have him : i ∈ left ops listed := (mem_left i).2 ⟨hin, hiu⟩
      obtain ⟨l1, l2, hsplit⟩ := List.append_of_mem him
      have hnd : (left ops listed).Nodup := sorted.imp (fun h => Nat.ne_of_lt h)
      have hset : ∀ k b, (listed.setIfInBounds i true).getD k b = if k = i then true else listed.getD k b := by
        intro k b
        simp only [Array.getD_eq_getD_getElem?, Array.getElem?_setIfInBounds]
        by_cases hk : i = k
        · subst hk; simp [hsz, hin]
        · simp [hk, Ne.symm hk]
      have hleft : left ops (listed.setIfInBounds i true) = l1 ++ l2 := by
        have h1 : left ops (listed.setIfInBounds i true) = (left ops listed).filter (fun k => k != i) := by
          unfold left
          rw [List.filter_filter]
          congr 1
          funext k
          rw [hset]
          by_cases hk : k = i <;> simp [hk]
        rw [h1, hsplit, List.filter_append, List.filter_cons]
        rw [hsplit] at hnd
        have h2 : ∀ k, k ∈ l1 → k ≠ i := by
          rintro k hk rfl
          exact (List.nodup_append.1 hnd).2.2 k hk k (List.mem_cons_self ..) rfl
        have h3 : ∀ k, k ∈ l2 → k ≠ i := by
          rintro k hk rfl
          exact (List.nodup_cons.1 (List.nodup_append.1 hnd).2.1).1 hk
        rw [List.filter_eq_self.2 (by simpa using h2), List.filter_eq_self.2 (by simpa using h3)]
        simp
      have hcl : Closed ops (listed.setIfInBounds i true) := by
        intro k o hk hok j hj
        rw [hset] at hk ⊢
        split
        · rfl
        · split at hk
          · rename_i hki
            subst hki
            rw [ho] at hok
            cases hok
            exact hdirs j hj
          · exact hc k o hk hok j hj
      obtain ⟨suf, h1, h2⟩ := go_ok hp m fuel (t / rs.length) (listed.setIfInBounds i true) (i :: acc) (by simp [hsz]) hcl (by
        rw [hleft]; rw [hsplit] at hl; simp at hl ⊢; omega)
      refine ⟨i :: suf, by rw [h1]; simp, fun a w h => ?_⟩
      rw [hsplit] at h
      rw [hleft] at h2
      refine tail_okM h2 (front_okM (fun j hj => ?_) h)
      have hjl : j ∈ left ops listed := by rw [hsplit]; exact List.mem_append_left _ hj
      have hji : j < i := by
        rw [hsplit] at sorted
        exact (List.pairwise_append.1 sorted).2.2 j hj i (List.mem_cons_self ..)
      rcases (pairs_on hp ho).2 j hji with h3 | h3
      · exfalso
        have := tab_listed hp hc (i + 1) i (by omega) (fun o hoo k hk => by rw [ho] at hoo; cases hoo; exact hdirs k hk) j h3
        obtain ⟨hjn, hju⟩ := (mem_left j).1 hjl
        rw [getD_eq j hjn, this] at hju
        cases hju
      · exact ⟨hji, h3⟩
theorem left_all (ops : Array Oper) : left ops (Array.replicate ops.size false) = List.range ops.size := by
  unfold left
  apply List.filter_eq_self.2
  intro i hi
  have := List.mem_range.1 hi
  simp [Array.getD_eq_getD_getElem?, this]
/-! ### From the text's order: what is known of the world and of what is new -/
theorem cells_set {w : World} {ad : Addr} {v : Value} : (∀ b, b ≠ ad.block → (w.setCell ad v).heap[b]? = w.heap[b]?) ∧ (w.setCell ad v).heap.size = w.heap.size ∧ ∀ c e f, w.heap[ad.block]? = some (.cells c e f) → ∃ c', (w.setCell ad v).heap[ad.block]? = some (.cells c' e f) := by
  refine ⟨fun b hb => ?_, by simp [World.setCell], fun c e f h => ?_⟩
  · simp only [World.setCell, Array.getElem?_modify]
    rw [if_neg (fun h => hb h.symm)]
  · simp only [World.setCell, Array.getElem?_modify]
    simp only [if_true, h, Option.map_some]
    exact ⟨_, rfl⟩
/-- A world that differs from another one at most in a row of cells. -/
structure OnlyAt (b : Nat) (w w' : World) : Prop where
  size : w'.heap.size = w.heap.size
  other : ∀ k, k ≠ b → w'.heap[k]? = w.heap[k]?
  row : ∃ c e f, w'.heap[b]? = some (.cells c e f)
theorem run_storeCells_only (b : Nat) : ∀ (vs : List Value) (i : Nat) (ad : Addr) (w : World), ad.block = b → (∃ c e f, w.heap[b]? = some (.cells c e f)) → (∃ e w', (storeCells ad vs i).run P w = .halt e w') ∨ ∃ w', (storeCells ad vs i).run P w = .ok () w' ∧ OnlyAt b w w'
  | [], i, ad, w, _, hc => .inr ⟨w, by simp [storeCells], rfl, fun _ _ => rfl, hc⟩
  | v :: vs, i, ad, w, hb, hc => by
    obtain ⟨c, e, f, hc⟩ := hc
    have hab : (ad.add i).block = b := by unfold Addr.add; split <;> exact hb
    have one : (∃ h w', (store (ad.add i) v).run P w = .halt h w') ∨ ∃ w', (store (ad.add i) v).run P w = .ok () w' ∧ OnlyAt b w w' := by
      have far : ∀ x, ∃ h, w.farStore P (ad.add i) x false = .error h := by
        intro x
        unfold World.farStore
        rw [hab, hc]
        exact ⟨_, rfl⟩
      have put : ∀ x, OnlyAt b w (w.setCell (ad.add i) x) := by
        intro x
        obtain ⟨h1, h2, h3⟩ := cells_set (w := w) (ad := ad.add i) (v := x)
        rw [hab] at h1 h3
        obtain ⟨c', h3⟩ := h3 c e f hc
        exact ⟨h2, h1, c', e, f, h3⟩
      unfold store
      cases v <;> first
        | exact .inl ⟨_, _, rfl⟩
        | (unfold Sem.run
           cases hcl : w.cell? (ad.add i) with
           | some y =>
             simp only
             split
             · exact .inl ⟨_, _, rfl⟩
             · exact .inr ⟨_, rfl, put _⟩
           | none =>
             obtain ⟨h, hf⟩ := far _
             simp only [show ((Mode.plain == Mode.atomic) = false) from rfl]
             rw [hf]
             exact .inl ⟨_, _, rfl⟩)
    rcases one with ⟨h, w', h1⟩ | ⟨w', h1, h2⟩
    · exact .inl ⟨h, w', by simp only [storeCells, Sem.run_bind, h1]; rfl⟩
    · rcases run_storeCells_only b vs (i + 1) ad w' hb h2.row with ⟨h, w'', h3⟩ | ⟨w'', h3, h4⟩
      · exact .inl ⟨h, w'', by simp only [storeCells, Sem.run_bind, h1]; exact h3⟩
      · exact .inr ⟨w'', by simp only [storeCells, Sem.run_bind, h1]; exact h3, h4.size.trans h2.size, fun k hk => (h4.other k hk).trans (h2.other k hk), h4.row⟩
theorem sizeOf_runs (T : TypeId) (w : World) : (∃ e w', (sizeOf T).run P w = .halt e w') ∨ ∃ n, (sizeOf T).run P w = .ok n w := by
  cases hi : P.info? T with
  | none => left; simp [sizeOf, typeInfo, hi]
  | some t => right; simp [sizeOf, typeInfo, hi]
theorem store_only {ρ : Operand → Value} {o : Oper} {T : TypeId} {x y : Operand} (hop : o.op = .store T x y) {p : Addr} (hx : ρ x = .pointer (some p)) (hc : ∃ c e f, w.heap[p.block]? = some (.cells c e f)) :
    (∃ e w', (execOp ρ o).run P w = .halt e w' ∧ ∀ v, e ≠ .panic v) ∨ (∃ e w', (execOp ρ o).run P w = .halt e w') ∨ ∃ w', (execOp ρ o).run P w = .ok .skip w' ∧ OnlyAt p.block w w' := by
  right
  rw [ex_store hop, hx]
  have key : (∃ e w', (Instr.storeAt T (.pointer (some p)) (ρ y)).run P w = .halt e w') ∨ ∃ w', (Instr.storeAt T (.pointer (some p)) (ρ y)).run P w = .ok () w' ∧ OnlyAt p.block w w' := by
    rcases sizeOf_runs (P := P) T w with ⟨e, w', h⟩ | ⟨n, h⟩
    · left
      refine ⟨e, w', ?_⟩
      simp [Instr.storeAt, Instr.sureAddr, storeVar, h]
    · by_cases hn : (ρ y).cells.size = n
      · rcases run_storeCells_only (P := P) p.block (ρ y).cells.toList 0 p w rfl hc with ⟨e, w', h1⟩ | ⟨w', h1, h2⟩
        · exact .inl ⟨e, w', by simp [Instr.storeAt, Instr.sureAddr, storeVar, h, hn, h1]⟩
        · exact .inr ⟨w', by simp [Instr.storeAt, Instr.sureAddr, storeVar, h, hn, h1], h2⟩
      · left
        simp [Instr.storeAt, Instr.sureAddr, storeVar, h, hn]
  rcases key with ⟨e, w', h⟩ | ⟨w', h, h2⟩
  · exact .inl ⟨e, w', by simp [h]⟩
  · exact .inr ⟨w', by simp [h], h2⟩
theorem alloc_only {ρ : Operand → Value} {o : Oper} {T : TypeId} (hop : o.op = .alloc T) :
    (∃ e w', (execOp ρ o).run P w = .halt e w') ∨ ∃ c, (execOp ρ o).run P w = .ok (.value (.pointer (some ⟨w.heap.size, 0, none⟩))) (w.alloc (.cells c T)) := by
  cases hi : P.info? T with
  | none => left; unfold execOp; rw [hop]; simp [Instr.alloc, zeroValue, typeInfo, hi]
  | some t =>
    cases hz : t.zero with
    | none => left; unfold execOp; rw [hop]; simp [Instr.alloc, zeroValue, typeInfo, hi, hz]
    | some z => exact .inr ⟨_, ex_alloc hop hi hz⟩
theorem upon_halt {o : Oper} {e : Halt} {w' : World} (h : o.upon P a next (fun _ _ _ => False) (.halt e w')) : False := by
  unfold Oper.upon at h
  split at h <;> first | exact h | (rename_i h'; cases h') | skip
structure Facts (ops : Array Oper) (w₀ : World) (i : Nat) (a : Act) (w : World) : Prop where
  quiet : allTo ops i (fun o => !isOther o) = true → w = w₀
  calm : calmTo ops i = true → Same w₀ w ∧ w₀.heap.size ≤ w.heap.size ∧ ∀ d p, newTo ops i d = true → rho a d = .pointer (some p) → w₀.heap.size ≤ p.block ∧ ∃ c e f, w.heap[p.block]? = some (.cells c e f)
theorem take_succ {i : Nat} {o : Oper} (ho : ops[i]? = some o) : ops.toList.take (i + 1) = ops.toList.take i ++ [o] := by
  rw [List.take_add_one]
  simp [ho]
theorem allTo_succ {i : Nat} {o : Oper} {p : Oper → Bool} (ho : ops[i]? = some o) (h : allTo ops (i + 1) p = true) : allTo ops i p = true ∧ p o = true := by
  unfold allTo at h ⊢
  rw [take_succ ho] at h
  simpa [List.all_append] using h
theorem newTo_succ {i d : Nat} {o : Oper} (ho : ops[i]? = some o) (h : newTo ops (i + 1) d = true) : (o.dst = some d ∧ isAlloc o = true) ∨ (o.dst ≠ some d ∧ newTo ops i d = true) := by
  unfold newTo at h
  rw [Bool.and_eq_true] at h
  obtain ⟨h1, h2⟩ := allTo_succ ho h.2
  rw [take_succ ho] at h
  by_cases hd : o.dst = some d
  · left
    refine ⟨hd, ?_⟩
    simpa [hd] using h2
  · right
    refine ⟨hd, ?_⟩
    unfold newTo
    rw [Bool.and_eq_true]
    refine ⟨?_, h1⟩
    have := h.1
    simp only [List.any_append, List.any_cons, List.any_nil, Bool.or_false, Bool.or_eq_true, Bool.and_eq_true, beq_iff_eq] at this
    rcases this with h | h
    · exact h
    · exact (hd h.2).elim
theorem rho_put_eq {d : Nat} {v : Value} : rho (a.put (some d) v) d = v ∨ rho (a.put (some d) v) d = undef := by
  by_cases hlt : d < a.tmps.size
  · left
    simp [rho, Act.put, Array.getD_eq_getD_getElem?, hlt]
  · right
    simp [rho, Act.put, Array.getD_eq_getD_getElem?, hlt]
theorem rho_put_cases {d : Nat} {v x : Value} {dst : Option Nat} (h : rho (a.put dst v) d = x) : (dst = some d ∧ (x = v ∨ x = undef)) ∨ (dst ≠ some d ∧ rho a d = x) := by
  cases dst with
  | none => exact .inr ⟨by simp, h⟩
  | some e =>
    by_cases he : e = d
    · subst he
      left
      refine ⟨rfl, ?_⟩
      rw [← h]
      exact rho_put_eq
    · right
      rw [← h]
      exact ⟨fun h => he (by simpa using h), (rho_put_ne (Ne.symm he)).symm⟩
theorem Facts.pure {w₀ : World} {i : Nat} {o : Oper} (ho : ops[i]? = some o) (hF : Facts ops w₀ i a w) (v : Value) (hv : v = undef ∨ isAlloc o = false) : Facts ops w₀ (i + 1) (a.put o.dst v) w := by
  refine ⟨fun h => hF.quiet (allTo_succ ho h).1, fun h => ?_⟩
  have hc : calmTo ops i = true := by
    simp only [calmTo, Bool.and_eq_true] at h
    exact h.1
  obtain ⟨h1, h2, h3⟩ := hF.calm hc
  refine ⟨h1, h2, fun d p hd hp => ?_⟩
  rcases newTo_succ ho hd with ⟨h4, h5⟩ | ⟨h4, h5⟩
  · rcases hv with hv | hv
    · subst hv
      rcases rho_put_cases hp with ⟨_, h6 | h6⟩ | ⟨h6, _⟩
      · cases h6
      · cases h6
      · exact (h6 h4).elim
    · rw [hv] at h5; cases h5
  · rcases rho_put_cases hp with ⟨h6, _⟩ | ⟨_, h6⟩
    · exact (h4 h6).elim
    · exact h3 d p h5 h6
theorem lift_okM (w₀ : World) : ∀ (m i : Nat) (a : Act) (w : World), Facts ops w₀ i a w → okI P ops next (List.range' i m) a w → okM P (Same w₀) ops next (List.range' i m) a w
  | 0, _, _, _, _, h => h
  | m + 1, i, a, w, hF, h => by
    simp only [List.range'_succ] at h ⊢
    unfold okI at h
    unfold okM
    cases ho : ops[i]? with
    | none =>
      rw [ho] at h
      simp only at h ⊢
      refine lift_okM w₀ m (i + 1) a w ?_ h
      have hsz : ops.toList.length ≤ i := by simpa using ho
      have ht : ops.toList.take (i + 1) = ops.toList.take i := by rw [List.take_of_length_le (by omega), List.take_of_length_le (by omega)]
      refine ⟨fun h => hF.quiet (by unfold allTo at h ⊢; rw [ht] at h; exact h), fun h => ?_⟩
      simp only [calmTo, Bool.and_eq_true] at h
      obtain ⟨h1, h2, h3⟩ := hF.calm h.1
      refine ⟨h1, h2, fun d p hd => h3 d p ?_⟩
      unfold newTo allTo at hd ⊢
      rw [ht] at hd
      exact hd
    | some o =>
      rw [ho] at h
      simp only at h ⊢
      unfold stepG at h
      unfold stepN
      split at h
      · rename_i hw
        rw [if_pos hw]
        have plain : ∀ a' w', Facts ops w₀ (i + 1) a' w' → okI P ops next (List.range' (i + 1) m) a' w' → okM P (Same w₀) ops next (List.range' (i + 1) m) a' w' := lift_okM w₀ m (i + 1)
        have na : ∀ c, opClass o.op = c → c ≠ .other → isAlloc o = false := by
          intro c hc hn
          unfold isAlloc
          split
          · rename_i hop
            rw [hop] at hc
            exact (hn hc.symm).elim
          · rfl
        cases hc : opClass o.op with
        | pure =>
          have hcl : clM ops i o = .plain := by
            unfold clM
            rw [if_neg (fun h => by have := (oldI_cls h).1; rw [hc] at this; cases this), if_neg (fun h => by have := freshI_cls h; rw [hc] at this; cases this)]
          rw [hcl]
          obtain ⟨v, hv, hn⟩ := stepK_pure' hc h
          exact stepK_pure hc ⟨v, hv, plain _ _ (hF.pure ho v (.inr (na _ hc (by simp)))) hn⟩
        | read =>
          obtain ⟨v, hv, hn⟩ := stepK_read' hc h
          have hn' := plain _ _ (hF.pure ho v (.inr (na _ hc (by simp)))) hn
          by_cases hold : oldI ops i o = true
          · have hcl : clM ops i o = .old := by unfold clM; rw [if_pos hold]
            rw [hcl]
            have hq : w = w₀ := hF.quiet (by simp only [oldI, Bool.and_eq_true] at hold; exact hold.2)
            subst hq
            exact ⟨Same.refl _, v, hv, hn'⟩
          · have hcl : clM ops i o = .plain := by
              unfold clM
              rw [if_neg hold, if_neg (fun h => by have := freshI_cls h; rw [hc] at this; cases this)]
            rw [hcl]
            exact stepK_read hc ⟨v, hv, hn'⟩
        | other =>
          have h : o.wp P a w (okI P ops next (List.range' (i + 1) m)) (fun _ _ _ => False) := by unfold stepK at h; rw [hc] at h; exact h
          have hio : isOther o = true := by unfold isOther; rw [hc]
          have nq : ¬ allTo ops (i + 1) (fun o => !isOther o) = true := fun h => by have := (allTo_succ ho h).2; rw [hio] at this; cases this
          by_cases hf : freshI ops i o = true
          · have hcl : clM ops i o = .fresh := by
              unfold clM
              rw [if_neg (fun h => by have := (oldI_cls h).1; rw [hc] at this; cases this), if_pos hf]
            rw [hcl]
            have hf' := hf
            simp only [freshI, Bool.and_eq_true] at hf'
            obtain ⟨_, hfs, hcalm⟩ := hf'
            obtain ⟨c1, c2, c3⟩ := hF.calm hcalm
            refine stepK_other hc ?_
            unfold freshS at hfs
            split at hfs
            · rename_i T hop
              unfold Oper.wp at h ⊢
              rcases alloc_only (P := P) (w := w) (ρ := a.eval) hop with ⟨e, w', hr⟩ | ⟨c, hr⟩
              · rw [hr] at h; exact (upon_halt h).elim
              · rw [hr] at h ⊢
                have hs : Same w₀ (w.alloc (.cells c T)) := fun b hb => (heap_alloc_old w _ b (by omega)).trans (c1 b hb)
                refine ⟨hs, plain _ _ ⟨fun h => (nq h).elim, fun _ => ⟨hs, by simp; omega, fun d p hd hp => ?_⟩⟩ h⟩
                rcases rho_put_cases hp with ⟨_, h6 | h6⟩ | ⟨h5, h6⟩
                · cases h6
                  exact ⟨c2, _, _, _, heap_alloc_new w _⟩
                · cases h6
                · rcases newTo_succ ho hd with ⟨h4, _⟩ | ⟨_, h5⟩
                  · exact (h5 h4).elim
                  · obtain ⟨h7, c', e', f', h8⟩ := c3 d p h5 h6
                    exact ⟨h7, c', e', f', (heap_alloc_old w _ _ (Array.getElem?_eq_some_iff.1 h8).1).trans h8⟩
            · rename_i T d y hop
              unfold Oper.wp at h ⊢
              have hwp := h
              cases hx : a.eval (.tmp d) with
              | pointer q =>
                cases q with
                | none =>
                  exfalso
                  rw [ex_store hop, hx] at h
                  simp [Instr.storeAt, Instr.sureAddr] at h
                  exact upon_halt h
                | some p =>
                  obtain ⟨h7, h8⟩ := c3 d p hfs hx
                  rcases (store_only (P := P) (ρ := a.eval) hop hx h8).resolve_left (fun ⟨e, w', hr, _⟩ => by rw [hr] at h; exact upon_halt h) with ⟨e, w', hr⟩ | ⟨w', hr, hon⟩
                  · rw [hr] at h; exact (upon_halt h).elim
                  · rw [hr] at h ⊢
                    have hs : Same w₀ w' := fun b hb => (hon.other b (by omega)).trans (c1 b hb)
                    refine ⟨hs, plain _ _ ⟨fun h => (nq h).elim, fun hcm => ⟨hs, by rw [hon.size]; exact c2, fun d' p' hd' hp' => ?_⟩⟩ h⟩
                    obtain ⟨g1, g2⟩ := ((hF.pure ho undef (.inl rfl)).calm hcm).2.2 d' p' hd' hp'
                    refine ⟨g1, ?_⟩
                    by_cases hb : p'.block = p.block
                    · rw [hb]; exact hon.row
                    · rw [hon.other _ hb]; exact g2
              | _ =>
                exfalso
                rw [ex_store hop, hx] at h
                simp [Instr.storeAt, Instr.sureAddr] at h
                exact upon_halt h
            · cases hfs
          · have hcl : clM ops i o = .plain := by
              unfold clM
              rw [if_neg (fun h => by have := (oldI_cls h).1; rw [hc] at this; cases this), if_neg hf]
            rw [hcl]
            refine stepK_mono (stepK_other hc h) fun a' w' h => plain a' w' ⟨fun h => (nq h).elim, fun hcm => ?_⟩ h
            exfalso
            apply hf
            simp only [calmTo, ho, hio, Bool.and_eq_true, Bool.not_true, Bool.false_or] at hcm
            simp only [freshI, Bool.and_eq_true]
            exact ⟨hio, hcm.2, hcm.1⟩
      · rename_i hw
        rw [if_neg hw]
        exact lift_okM w₀ m (i + 1) _ w (hF.pure ho undef (.inl rfl)) h
theorem sched_ok (hp : pairsOK ops = true) (mixed : Bool) (t : Nat) (h : okI P ops next (List.range ops.size) a w) : ∃ I, okM P I ops next (Region.schedule mixed ops t) a w := by
  refine ⟨Same w, ?_⟩
  have h : okM P (Same w) ops next (List.range ops.size) a w := by
    rw [List.range_eq_range'] at h ⊢
    refine lift_okM w _ 0 a w ⟨fun _ => rfl, fun _ => ⟨Same.refl w, Nat.le_refl _, fun d p hd => ?_⟩⟩ h
    simp [newTo] at hd
  have key : ∀ m t, okM P (Same w) ops next (Region.linearise m ops t) a w := by
    intro m t
    obtain ⟨suf, h1, h2⟩ := go_ok (P := P) (I := Same w) (next := next) hp m ops.size t (Array.replicate ops.size false) [] (by simp)
      (by intro i o hi; simp [Array.getD_eq_getD_getElem?, Array.getElem?_replicate] at hi; split at hi <;> simp at hi) (by rw [left_all]; simp)
    unfold Region.linearise
    rw [h1]
    rw [left_all] at h2
    exact h2 a w h
  unfold Region.schedule
  split
  · exact key _ _
  · exact key _ _
end
end Go.Gx

/-
  Gx29: the machine's soundness for code.
  Conditions: none; from the frames' execution to the model's.
-/
namespace Go.Gx
open Go

section
variable {P : Program} {C : Ctx} {E : Env} {S S' : Nat → Prop} {A : Fr} {a : Act} {w w' : World} {K : Fr → Prop} {next : Act → World → Prop} {Q : Exit → Act → World → Prop} {ops : Array Oper}

theorem Inv.drew {n : Rg} (h : Inv C n S A a w) : Inv C n S A a { w with drawn := w.drawn + 1 } := by
  refine h.step (fun _ => False) (fun _ => False) ⟨rfl, rfl, rfl, Nat.le_refl _, fun _ _ _ => rfl, Nat.le_succ _⟩ (fun _ hb => hb.elim) h.size (fun _ _ => rfl) rfl h.keys h.bxs (fun _ hb => hb) (fun _ hb => .inl hb) ?_ ?_ ?_
  · intro s v _ hs
    exact ⟨hs, rfl, fun _ _ => rfl, fun _ _ _ _ _ hb => hb⟩
  · intro s v hg
    exact hg.elim
  · intro s v t u hg
    exact hg.elim
theorem region_ok (hE : EnvOK P E C) (h : Inv C E.n S A a w) {id : Nat} {draw : Bool} (hp : br draw (pairsOK ops = true) True) (hK : aops E ops ops.toList A K) (hn : Nx C E.n S K (Q .normal)) : (Code.region id ops draw).wp P Q a w := by
  cases draw with
  | false => exact wp_region (okI_wpOps (aops_ok hE h hK hn))
  | true => exact wp_region_draw (fun t => let ⟨_, h⟩ := sched_ok hp _ t (aops_ok hE h.drew hK hn); okM_wpOps h)

theorem norm_rv {ρ : Nat → Value} {v : AV} {x : Value} (h : RV S C.L w ρ v x) : RV S C.L w ρ (norm v) x ∧ owned w (norm v) x = owned w v x ∧ (norm v).ref = v.ref ∧ (norm v).fref = v.fref := by
  cases v with
  | nl e c =>
    have h1 : x = .slice none 0 0 := h.1
    have h2 := norm1_rp (C := C) (S := S) (w := w) (v := .nl e c) h
    exact ⟨h2, by rw [h1]; rfl, rfl, rfl⟩
  | bx l =>
    obtain ⟨b, e, cs, hx, hh, hr⟩ := h
    obtain ⟨h1, h2⟩ := norm1_all hr
    refine ⟨⟨b, e, cs, hx, hh, h1⟩, ?_, rfl, rfl⟩
    rw [hx]
    simp [norm, owned, rowOf_eq hh, h2]
  | _ => exact ⟨h, rfl, rfl, rfl⟩
theorem look_restr {A : Fr} {s : Nat} {v : AV} {keep₀ : List Nat} : ∀ {keep : List Nat}, look s (keep.filterMap fun s => (look s A).bind fun v => if v.ref.all keep₀.contains then some (s, norm v) else none) = some v →
    s ∈ keep ∧ ∃ u, look s A = some u ∧ v = norm u ∧ u.ref.all keep₀.contains = true
  | [], h => by simp [look] at h
  | k :: keep, h => by
    simp only [List.filterMap_cons] at h
    have go : look s (keep.filterMap fun s => (look s A).bind fun v => if v.ref.all keep₀.contains then some (s, norm v) else none) = some v → s ∈ k :: keep ∧ ∃ u, look s A = some u ∧ v = norm u ∧ u.ref.all keep₀.contains = true := by
      intro h
      obtain ⟨h1, h2⟩ := look_restr h
      exact ⟨List.mem_cons_of_mem _ h1, h2⟩
    split at h
    · exact go h
    · rename_i e he
      cases hl : look k A with
      | none => simp [hl] at he
      | some u =>
        simp only [hl, Option.bind_some] at he
        split at he
        · rename_i hr
          simp at he
          subst he
          simp only [look] at h
          split at h
          · rename_i hk
            simp at hk h
            subst hk
            exact ⟨List.mem_cons_self .., u, hl, h.symm, hr⟩
          · exact go h
        · simp at he
theorem look_restr' {A : Fr} {s : Nat} {u : AV} {keep₀ : List Nat} (hu : look s A = some u) (hr : u.ref.all keep₀.contains = true) : ∀ {keep : List Nat}, s ∈ keep → look s (keep.filterMap fun s => (look s A).bind fun v => if v.ref.all keep₀.contains then some (s, norm v) else none) = some (norm u)
  | [], h => by simp at h
  | k :: keep, h => by
    simp only [List.filterMap_cons]
    by_cases hk : k = s
    · subst hk
      simp only [hu, Option.bind_some, hr, if_true]
      simp [look]
    · have hm : s ∈ keep := by
        rcases List.mem_cons.1 h with h | h
        · exact (hk h.symm).elim
        · exact h
      have ih := look_restr' hu hr hm
      split
      · exact ih
      · rename_i e he
        have : e.1 = k := by
          cases hl : look k A with
          | none => simp [hl] at he
          | some u' =>
            simp only [hl, Option.bind_some] at he
            split at he
            · simp at he; rw [← he]
            · simp at he
        obtain ⟨e1, e2⟩ := e
        simp at this
        subst this
        simp only [look, beq_iff_eq, hk, if_false]
        exact ih
theorem keys_restr {A : Fr} {keep₀ : List Nat} : ∀ {keep : List Nat}, keep.Nodup → ((keep.filterMap fun s => (look s A).bind fun v => if v.ref.all keep₀.contains then some (s, norm v) else none).map (·.1)).Nodup ∧
    ∀ k, k ∈ (keep.filterMap fun s => (look s A).bind fun v => if v.ref.all keep₀.contains then some (s, norm v) else none).map (·.1) → k ∈ keep
  | [], _ => by simp
  | k :: keep, hn => by
    rw [List.nodup_cons] at hn
    obtain ⟨i1, i2⟩ := keys_restr (A := A) (keep₀ := keep₀) hn.2
    simp only [List.filterMap_cons]
    split
    · exact ⟨i1, fun s hs => List.mem_cons_of_mem _ (i2 s hs)⟩
    · rename_i e he
      have : e.1 = k := by
        cases hl : look k A with
        | none => simp [hl] at he
        | some u' =>
          simp only [hl, Option.bind_some] at he
          split at he
          · simp at he; rw [← he]
          · simp at he
      refine ⟨?_, ?_⟩
      · rw [List.map_cons, List.nodup_cons]
        exact ⟨fun h => hn.1 (this ▸ i2 _ h), i1⟩
      · intro s hs
        rw [List.map_cons] at hs
        rcases List.mem_cons.1 hs with h | h
        · rw [h, this]; exact List.mem_cons_self ..
        · exact List.mem_cons_of_mem _ (i2 s h)
theorem Inv.restr {n : Rg} (h : Inv C n S A a w) {keep : List Nat} (hn : keep.Nodup) : Inv C n S (restr keep A) a w := by
  have lk : ∀ s v, look s (Gx.restr keep A) = some v → s ∈ keep ∧ ∃ u, look s A = some u ∧ v = norm u ∧ u.ref.all keep.contains = true := fun s v hs => look_restr hs
  refine h.step (fun _ => False) (fun _ => True) (Mod.refl _ _) (fun _ hb => hb.elim) h.size (fun _ _ => rfl) rfl (keys_restr hn).1 ?_ (fun _ hb => hb) (fun _ hb => .inl hb) ?_ ?_ ?_
  · intro s v t hs ht
    obtain ⟨h1, u, h2, rfl, h3⟩ := lk s v hs
    have hrv := norm_rv (h.rel s u h2)
    rw [hrv.2.2.2] at ht
    obtain ⟨l, hl⟩ := h.bxs s u t h2 ht
    have htk : t ∈ keep := by
      have := List.all_eq_true.1 h3 t (fref_ref ht)
      simpa using this
    exact ⟨l.map norm1, look_restr' hl (by rfl) htk⟩
  · intro s v hg
    exact (hg trivial).elim
  · intro s v _ hs
    obtain ⟨h1, u, h2, rfl, h3⟩ := lk s v hs
    obtain ⟨r1, r2, _, _⟩ := norm_rv (h.rel s u h2)
    refine ⟨r1, by rw [r2]; exact h.nd s u h2, fun b hb => ?_⟩
    rw [r2] at hb
    exact ⟨(h.apart s u h2 b hb).1, .inl ⟨s, u, trivial, h2, hb⟩⟩
  · intro s v t u _ _ hne hs ht b hb hb'
    obtain ⟨_, v', h2, rfl, _⟩ := lk s v hs
    obtain ⟨_, u', h4, rfl, _⟩ := lk t u ht
    rw [(norm_rv (h.rel s v' h2)).2.1] at hb
    rw [(norm_rv (h.rel t u' h4)).2.1] at hb'
    exact h.dj s v' t u' h2 h4 hne b hb hb'
theorem keepOf_nodup (hE : EnvOK P E C) (b : Code) : (keepOf E b).Nodup := by
  unfold keepOf
  cases hf : firstReg b with
  | none => simp
  | some i =>
    simp only [Option.bind_some]
    cases hl : look i E.keep with
    | none => simp
    | some l =>
      simp only [Option.getD_some]
      exact nodupB_ok (List.all_eq_true.1 hE.keep _ (look_mem hl))

theorem AE_ok (hE : EnvOK P E C) : ∀ (c : Code) {K : Exit → Fr → Prop} {S : Nat → Prop} {A : Fr} {a : Act} {w : World} {Q : Exit → Act → World → Prop}, Inv C E.n S A a w → AE E c A K → (∀ e, Nx C E.n S (K e) (Q e)) → c.wp P Q a w
  | .skip, K, S, A, a, w, Q, h, hK, hn => wp_skip (hn .normal A a w S h (fun _ hb => hb) hK)
  | .region id ops draw, K, S, A, a, w, Q, h, hK, hn => region_ok hE h hK.1 hK.2 (hn .normal)
  | .seq x y, K, S, A, a, w, Q, h, hK, hn => by
    refine wp_seq (AE_ok hE x h hK fun e => ?_)
    cases e with
    | normal => exact fun A' a' w' S' h' hS hK' => AE_ok hE y h' hK' fun e => (hn e).mono hS
    | exit i => exact hn (.exit i)
    | goto l => exact hn (.goto l)
    | ret => exact hn .ret
    | panic ch => exact hn (.panic ch)
    | outgrown => exact hn .outgrown
  | .cond c x y, K, S, A, a, w, Q, h, hK, hn => by
    unfold AE at hK
    split at hK
    · rename_i t hc
      have hev := eval_pv h hc
      cases t with
      | true => exact wp_cond_true hev (AE_ok hE x h hK hn)
      | false => exact wp_cond_false hev (AE_ok hE y h hK hn)
    · exact hK.elim
  | .block id b, K, S, A, a, w, Q, h, hK, hn => by
    refine wp_block (AE_ok hE b h hK fun e => ?_)
    cases e with
    | exit i =>
      intro A' a' w' S' h' hS hK'
      unfold inB at hK'
      unfold Exit.inBlock
      by_cases hi : i = id
      · simp only [hi, beq_self_eq_true, if_true] at hK' ⊢
        exact hn .normal A' a' w' S' h' hS hK'
      · simp only [beq_iff_eq, hi, if_false] at hK' ⊢
        exact hn (.exit i) A' a' w' S' h' hS hK'
    | normal => exact hn .normal
    | goto l => exact hn (.goto l)
    | ret => exact hn .ret
    | panic ch => exact hn (.panic ch)
    | outgrown => exact hn .outgrown
  | .loop b, K, S, A, a, w, Q, h, hK, hn => by
    obtain ⟨N, hN⟩ := hK
    have key : ∀ (N : Nat) (S' : Nat → Prop) (A : Fr) (a : Act) (w : World), (∀ b, S b → S' b) → Inv C E.n S' A a w → iter (fun A next => AE E b A (thenE (fun A => next (restr (keepOf E b) A)) K)) N A → Code.rounds P b Q N a w := by
      intro N
      induction N with
      | zero => intro S' A a w _ _ hi; exact hi.elim
      | succ N ih =>
        intro S' A a w hS hI hi
        refine AE_ok hE b hI hi fun e => ?_
        cases e with
        | normal => exact fun A' a' w' S'' h' hS' hK' => ih S'' _ a' w' (fun b hb => hS' b (hS b hb)) (h'.restr (keepOf_nodup hE b)) hK'
        | exit i => exact (hn (.exit i)).mono hS
        | goto l => exact (hn (.goto l)).mono hS
        | ret => exact (hn .ret).mono hS
        | panic ch => exact (hn (.panic ch)).mono hS
        | outgrown => exact (hn .outgrown).mono hS
    exact wp_loop_rounds N (key N S _ a w (fun _ hb => hb) (h.restr (keepOf_nodup hE b)) hN)
  | .exit id, K, S, A, a, w, Q, h, hK, hn => wp_exit (hn (.exit id) A a w S h (fun _ hb => hb) hK)
  | .ret, K, S, A, a, w, Q, h, hK, hn => wp_ret (hn .ret A a w S h (fun _ hb => hb) hK)
  | .rangeFunc .., K, S, A, a, w, Q, h, hK, hn => hK.elim
  | .scope .., K, S, A, a, w, Q, h, hK, hn => hK.elim
  | .label .., K, S, A, a, w, Q, h, hK, hn => hK.elim
  | .goto .., K, S, A, a, w, Q, h, hK, hn => hK.elim
  | .refuse .., K, S, A, a, w, Q, h, hK, hn => hK.elim
end
end Go.Gx

/-
  Gx30: what a function hands back.
  Conditions: none; the results of a frame, and the model's.
-/
namespace Go.Gx
open Go

/-- A part of a struct that may be handed back. -/
def cleanP : AV → Bool
  | .pv _ | .sl _ | .nl .. => true
  | _ => false
def cleanN : AV → Bool
  | .pv _ | .sl _ | .nl .. | .aa _ => true
  | .ag l => l.all cleanP
  | _ => false
def outP : AV → Bool
  | .pv _ | .sl _ | .nl .. | .ow .. | .jk => true
  | _ => false
def outOK : AV → Bool
  | .ow .. | .ba _ => true
  | .bx l => l.all outP
  | _ => false
def acell (E : Env) (A : Fr) (s : Nat) (l : List AV) (T : TypeId) : Option (Fr × AV × List Nat) :=
  match aggOf E T with
  | .sc => match l[(0 : Nat)]? with
    | some (.ow e c) => some (A, .ow e c, [s])
    | some v => if cleanP v then some (A, v, []) else none
    | none => none
  | .agg m => if m == l.length && (frzF l).all cleanP then some (dropF s (upd s (.bx (frzF l)) A), .ag (frzF l), []) else none
  | .unk => none
def aacell (E : Env) (A : Fr) (c : Sq) (T : TypeId) : Option (Fr × AV × List Nat) :=
  match aggOf E T with
  | .agg m => if c.len == m then some (A, .aa c, []) else none
  | _ => none
def ares1 (E : Env) (A : Fr) : ResultVar → Option (Fr × AV × List Nat)
  | .tmp t => match look t A with
    | some (.ow e c) => some (A, .ow e c, [t])
    | some (.al s) => match look s A with | some (.ow e c) => some (A, .ow e c, [s]) | _ => none
    | some v => if cleanN v then some (A, v, []) else none
    | none => none
  | .cell t T => match look t A with
    | some (.bx l) => acell E A t l T
    | some (.ba c) => aacell E A c T
    | some (.pt s 0) => match look s A with
      | some (.bx l) => acell E A s l T
      | some (.ba c) => aacell E A c T
      | _ => none
    | _ => none
/-- A part of a tuple that may be handed back. -/
def cleanT : AV → Bool
  | .pv _ | .sl _ | .nl .. | .aa _ => true
  | .ag l => l.all cleanP
  | _ => false
/-- A result that owns nothing. -/
def aresS (E : Env) (A : Fr) (r : ResultVar) : Option (Fr × AV) :=
  match ares1 E A r with
  | some (A', v, []) => if cleanT v then some (A', v) else none
  | some (A', .ow _ c, [s]) => match look s A' with
    | some (.ow _ _) => some (setd s (.sl c) A', .sl c)
    | some (.bx l) => match l[(0 : Nat)]? with
      | some (.ow _ _) => some (dropF s (upd s (.bx (l.set 0 (.sl c))) A'), .sl c)
      | _ => none
    | _ => none
  | _ => none
def aresL (E : Env) (A : Fr) : List ResultVar → Option (Fr × List AV)
  | [] => some (A, [])
  | r :: rs => match aresS E A r with
    | some (A', v) => match aresL E A' rs with | some (A'', vs) => some (A'', v :: vs) | none => none
    | none => none
def outsOf (A : Fr) : List Nat → Option (List AV)
  | [] => some []
  | i :: r => match look i A, outsOf A r with
    | some v, some vs => if outOK v then some (v :: vs) else none
    | _, _ => none
def aret (E : Env) (A : Fr) (rs : List ResultVar) (ios : List Nat) (K : AV → List AV → Prop) : Prop :=
  match rs with
  | [r] => match ares1 E A r with
    | some (A', v, src) => if src.all (fun s => !ios.contains s) then (match outsOf A' ios with | some outs => K v outs | none => False) else False
    | none => False
  | rs => match aresL E A rs with
    | some (A', vs) => match outsOf A' ios with | some outs => K (.tp vs) outs | none => False
    | none => False

section
variable {P : Program} {C : Ctx} {E : Env} {S S' : Nat → Prop} {A A' : Fr} {a : Act} {w : World}
def resRun (tmps : Array Value) : ResultVar → Sem Value
  | .tmp t => pure (tmps.getD t undef)
  | .cell a t => do loadVar t (← asAddr (tmps.getD a undef))
theorem run_cell {t : Nat} {T : TypeId} {b : Nat} {x : Value} (ht : rho a t = .pointer (some ⟨b, 0, none⟩)) (hr : Reads P w (Instr.loadAt T (.pointer (some ⟨b, 0, none⟩))) x) : (resRun a.tmps (.cell t T)).run P w = .ok x w := by
  have hr := hr w (Same.refl w)
  have ht' : a.tmps.getD t undef = .pointer (some ⟨b, 0, none⟩) := ht
  simp only [Instr.loadAt, Instr.sureAddr, Sem.run_bind, Sem.run_pure, Result.andThen_ok] at hr
  simp only [resRun, ht', asAddr, Sem.run_bind, Sem.run_pure, Result.andThen_ok]
  exact hr
theorem cleanP_rps {L : Nat → Prop} {v : AV} {x : Value} (hc : cleanP v = true) (h : RP S L w v x) : RPs S (fun _ => False) w v x := by
  cases v <;> first | exact ⟨rfl, h⟩ | (simp [cleanP] at hc)
theorem cleanP_all {L : Nat → Prop} : ∀ {l : List AV} {cs : List Value}, l.all cleanP = true → All2 (RPs S L w) l cs → All2 (RPs S (fun _ => False) w) l cs
  | [], [], _, _ => trivial
  | v :: l, x :: cs, hc, h => by
    simp only [List.all_cons, Bool.and_eq_true] at hc
    exact ⟨cleanP_rps hc.1 h.1.2, cleanP_all hc.2 h.2⟩
/-- A result: its run, and what is known of it. -/
structure Res1 (P : Program) (C : Ctx) (E : Env) (S : Nat → Prop) (A' : Fr) (a : Act) (w : World) (r : ResultVar) (v : AV) (src : List Nat) (S' : Nat → Prop) (x : Value) : Prop where
  mono : ∀ b, S b → S' b
  inv : Inv C E.n S' A' a w
  run : (resRun a.tmps r).run P w = .ok x w
  rel : RV S' (fun _ => False) w (fun _ => undef) v x
  clean : v.clean = true
  own : (src = [] ∧ owned w v x = []) ∨ ∃ s u e c, src = [s] ∧ v = .ow e c ∧ look s A' = some u ∧ (∀ b, b ∈ owned w v x → b ∈ owned w u (rho a s)) ∧ Own S' w e c x ∧
    ((u = .ow e c ∧ rho a s = x) ∨ ∃ l, u = .bx l ∧ l[0]? = some (.ow e c) ∧ ∃ b e' cs, rho a s = .pointer (some ⟨b, 0, none⟩) ∧ w.heap[b]? = some (.cells (List.toArray cs) e' (0, 0)) ∧ cs[0]? = some x)
theorem acell_ok {t s b : Nat} {l : List AV} {T : TypeId} {v : AV} {src : List Nat} (hte : teOK P E.te = true) (h : Inv C E.n S A a w) (hl : look s A = some (.bx l)) (hs : rho a s = .pointer (some ⟨b, 0, none⟩)) (ht : rho a t = .pointer (some ⟨b, 0, none⟩))
    (hr : acell E A s l T = some (A', v, src)) : ∃ S' x, Res1 P C E S A' a w (.cell t T) v src S' x := by
  obtain ⟨b2, e, cs, hx, hh, hrp⟩ := h.rel s _ hl
  have hb : b = b2 := by have := hs.symm.trans hx; simpa using this
  subst hb
  unfold acell at hr
  split at hr
  · rename_i hsc
    have ld : ∀ y, cs[0]? = some y → (resRun a.tmps (.cell t T)).run P w = .ok y w := fun y hy => run_cell ht (run_load_sc hte hsc (by rw [cell_row hh]; exact hy))
    split at hr
    · rename_i e1 c hl0
      simp at hr
      obtain ⟨rfl, rfl, rfl⟩ := hr
      obtain ⟨y, hy, hry⟩ := hrp.get hl0
      refine ⟨S, y, fun _ hb => hb, h, ld y hy, hry, rfl, .inr ⟨s, _, e1, c, rfl, rfl, hl, fun k hk => ?_, hry, .inr ⟨l, rfl, hl0, b, e, cs, hs, hh, hy⟩⟩⟩
      rw [hs]
      simp only [owned, rowOf_eq hh]
      exact List.mem_cons_of_mem _ (ownFs_mem hl0 hy (by rw [ownF_ow (w := w)]; exact hk))
    · rename_i v' hne hl0
      split at hr
      · rename_i hc
        simp at hr
        obtain ⟨rfl, rfl, rfl⟩ := hr
        obtain ⟨y, hy, hry⟩ := hrp.get hl0
        have hrs := cleanP_rps hc hry
        refine ⟨S, y, fun _ hb => hb, h, ld y hy, RPs.rv (C := { C with L := fun _ => False }) hrs, ?_, .inl ⟨rfl, ?_⟩⟩
        · cases v' <;> first | rfl | (simp [cleanP] at hc)
        · cases v' <;> first | rfl | (simp [cleanP] at hc)
      · simp at hr
    · simp at hr
  · rename_i m hag
    split at hr
    · rename_i hc
      simp only [Bool.and_eq_true, beq_iff_eq] at hc
      obtain ⟨hm, hcl⟩ := hc
      simp at hr
      obtain ⟨rfl, rfl, rfl⟩ := hr
      obtain ⟨S', hS, hi⟩ := h.frzBox hl (Fz.frzF l)
      have hkk := nodup_upd h.keys s (.bx (frzF l))
      obtain ⟨b2, e2, cs2, h4, h5, h6⟩ := hi.rel s _ (look_dropF' hkk (look_upd_same hl))
      have hb : b = b2 := by have := hs.symm.trans h4; simpa using this
      subst hb
      rw [hh] at h5
      simp at h5
      obtain ⟨rfl, rfl⟩ := h5
      have h7 := frzF_rps h6 (anyOw_frzF _)
      rw [frzF_frzF] at h7
      refine ⟨S', .agg cs.toArray, hS, hi, run_cell ht (run_load_agg hte hag (hrp.length.trans hm.symm) (fun i v hv => by rw [cell_row hh, Nat.zero_add]; exact hv)), ⟨cs, rfl, cleanP_all hcl h7⟩, ?_, .inl ⟨rfl, rfl⟩⟩
      exact hcl
    · simp at hr
  · simp at hr
end
end Go.Gx

/-
  Gx31: every result, and the contents handed back.
  Conditions: none; the results of a frame, and the model's.
-/
namespace Go.Gx
open Go

section
variable {P : Program} {C : Ctx} {E : Env} {S S' : Nat → Prop} {A A' : Fr} {a : Act} {w : World}
theorem aacell_ok {t s b : Nat} {c : Sq} {T : TypeId} {v : AV} {src : List Nat} (hte : teOK P E.te = true) (h : Inv C E.n S A a w) (hl : look s A = some (.ba c)) (hs : rho a s = .pointer (some ⟨b, 0, none⟩)) (ht : rho a t = .pointer (some ⟨b, 0, none⟩))
    (hr : aacell E A c T = some (A', v, src)) : ∃ S' x, Res1 P C E S A' a w (.cell t T) v src S' x := by
  obtain ⟨b2, e, cs, hx, hh, hc⟩ := h.rel s _ hl
  have hb : b = b2 := by have := hs.symm.trans hx; simpa using this
  subst hb
  unfold aacell at hr
  split at hr
  · rename_i m hag
    split at hr
    · rename_i hm
      simp at hr hm
      obtain ⟨rfl, rfl, rfl⟩ := hr
      have hc : Cells S w c cs := hc
      exact ⟨S, .agg cs.toArray, fun _ hb => hb, h, run_cell ht (run_load_agg hte hag (hc.length.trans hm) (fun i v hv => by rw [cell_row hh, Nat.zero_add]; exact hv)), ⟨cs, rfl, hc⟩, rfl, .inl ⟨rfl, rfl⟩⟩
    · simp at hr
  · simp at hr
theorem cleanN_ok {v : AV} {x : Value} {L : Nat → Prop} {ρ : Nat → Value} (hc : cleanN v = true) (h : RV S L w ρ v x) : RV S (fun _ => False) w (fun _ => undef) v x ∧ v.clean = true ∧ owned w v x = [] := by
  cases v with
  | pv y => exact ⟨h, rfl, rfl⟩
  | sl c => exact ⟨h, rfl, rfl⟩
  | nl e c => exact ⟨h, rfl, rfl⟩
  | aa c => exact ⟨h, rfl, rfl⟩
  | ag l =>
    obtain ⟨cs, hx, hr⟩ := h
    exact ⟨⟨cs, hx, cleanP_all hc hr⟩, hc, rfl⟩
  | _ => simp [cleanN] at hc
theorem ares1_ok {r : ResultVar} {v : AV} {src : List Nat} (hte : teOK P E.te = true) (h : Inv C E.n S A a w) (hr : ares1 E A r = some (A', v, src)) : ∃ S' x, Res1 P C E S A' a w r v src S' x := by
  unfold ares1 at hr
  split at hr
  · rename_i t
    have hrun : (resRun a.tmps (.tmp t)).run P w = .ok (rho a t) w := rfl
    split at hr
    · rename_i e c hl
      simp at hr
      obtain ⟨rfl, rfl, rfl⟩ := hr
      have ho : Own S w e c (rho a t) := h.rel t _ hl
      exact ⟨S, _, fun _ hb => hb, h, hrun, ho, rfl, .inr ⟨t, _, e, c, rfl, rfl, hl, fun _ hb => hb, ho, .inl ⟨rfl, rfl⟩⟩⟩
    · rename_i s hl
      split at hr
      · rename_i e c hls
        simp at hr
        obtain ⟨rfl, rfl, rfl⟩ := hr
        have he : rho a t = rho a s := h.rel t _ hl
        have ho : Own S w e c (rho a s) := h.rel s _ hls
        rw [he] at hrun
        exact ⟨S, _, fun _ hb => hb, h, hrun, ho, rfl, .inr ⟨s, _, e, c, rfl, rfl, hls, fun _ hb => hb, ho, .inl ⟨rfl, rfl⟩⟩⟩
      · simp at hr
    · rename_i v' _ _ hl
      split at hr
      · rename_i hc
        simp at hr
        obtain ⟨rfl, rfl, rfl⟩ := hr
        obtain ⟨h1, h2, h3⟩ := cleanN_ok hc (h.rel t _ hl)
        exact ⟨S, _, fun _ hb => hb, h, hrun, h1, h2, .inl ⟨rfl, h3⟩⟩
      · simp at hr
    · simp at hr
  · rename_i t T
    split at hr
    · rename_i l hl
      obtain ⟨b, e, cs, hx, _⟩ := h.rel t _ hl
      exact acell_ok hte h hl hx hx hr
    · rename_i c hl
      obtain ⟨b, e, cs, hx, _⟩ := h.rel t _ hl
      exact aacell_ok hte h hl hx hx hr
    · rename_i s hl
      obtain ⟨b, hs, hx⟩ := h.rel t _ hl
      split at hr
      · rename_i l hls
        exact acell_ok hte h hls hs hx hr
      · rename_i c hls
        exact aacell_ok hte h hls hs hx hr
      · simp at hr
    · simp at hr
structure ResS (P : Program) (C : Ctx) (E : Env) (S : Nat → Prop) (A' : Fr) (a : Act) (w : World) (r : ResultVar) (v : AV) (S' : Nat → Prop) (x : Value) : Prop where
  mono : ∀ b, S b → S' b
  inv : Inv C E.n S' A' a w
  run : (resRun a.tmps r).run P w = .ok x w
  rel : RT S' (fun _ => False) w v x
  clean : cleanT v = true
theorem RV.rt {L : Nat → Prop} {ρ : Nat → Value} {v : AV} {x : Value} (hc : cleanT v = true) (h : RV S L w ρ v x) : RT S L w v x := by
  cases v with
  | ag l => exact h
  | aa c => exact h
  | pv y => exact ⟨rfl, h⟩
  | sl c => exact ⟨rfl, h⟩
  | nl e c => exact ⟨rfl, h⟩
  | _ => simp [cleanT] at hc
theorem aresS_ok {r : ResultVar} {v : AV} (hte : teOK P E.te = true) (h : Inv C E.n S A a w) (hr : aresS E A r = some (A', v)) : ∃ S' x, ResS P C E S A' a w r v S' x := by
  unfold aresS at hr
  split at hr
  · rename_i A₁ v' h1
    split at hr
    · rename_i hct
      simp at hr
      obtain ⟨rfl, rfl⟩ := hr
      obtain ⟨S', x, hres⟩ := ares1_ok hte h h1
      exact ⟨S', x, hres.mono, hres.inv, hres.run, RV.rt hct hres.rel, hct⟩
    · simp at hr
  · rename_i A₁ e c s h1
    obtain ⟨S', x, hres⟩ := ares1_ok hte h h1
    rcases hres.own with ⟨hs, _⟩ | ⟨s', u, e', c', hs, hv, hu, _, ho, hsrc⟩
    · simp at hs
    · simp at hs hv
      obtain ⟨rfl, rfl⟩ := hv
      subst hs
      rcases hsrc with ⟨rfl, hx⟩ | ⟨l, rfl, hl0, b, e2, cs, hsb, hh, hcx⟩
      · rw [hu] at hr
        simp at hr
        obtain ⟨rfl, rfl⟩ := hr
        obtain ⟨S₂, hS₂, hi₂, hro⟩ := hres.inv.frzSlot hu
        rw [hx] at hro
        exact ⟨S₂, x, fun b hb => hS₂ b (hres.mono b hb), hi₂, hres.run, ⟨rfl, hro⟩, rfl⟩
      · rw [hu] at hr
        simp only [hl0] at hr
        simp at hr
        obtain ⟨rfl, rfl⟩ := hr
        obtain ⟨S₂, hS₂, hi₂⟩ := hres.inv.frzBox hu (All2.set' (Fz.refl l) hl0 (.inr (.inl ⟨e, c, rfl, rfl⟩)))
        have hkk := nodup_upd hres.inv.keys s (.bx (l.set 0 (.sl c)))
        obtain ⟨b2, e3, cs2, h4, h5, h6⟩ := hi₂.rel s _ (look_dropF' hkk (look_upd_same hu))
        have hb : b = b2 := by have := hsb.symm.trans h4; simpa using this
        subst hb
        rw [hh] at h5
        simp at h5
        obtain ⟨rfl, rfl⟩ := h5
        have hlt : 0 < l.length := (List.getElem?_eq_some_iff.1 hl0).1
        obtain ⟨y, hy, hrel⟩ := h6.get (i := 0) (a := .sl c) (by simp [hlt])
        rw [hcx] at hy
        cases hy
        exact ⟨S₂, x, fun b hb => hS₂ b (hres.mono b hb), hi₂, hres.run, ⟨rfl, hrel⟩, rfl⟩
  · simp at hr
theorem RT.up {v : AV} {x : Value} (hS : ∀ b, S b → S' b) (h : RT S (fun _ => False) w v x) : RT S' (fun _ => False) w v x := RT.keep hS (fun _ _ => rfl) h
theorem aresL_ok (hte : teOK P E.te = true) : ∀ {rs : List ResultVar} {vs : List AV} {S : Nat → Prop} {A A' : Fr}, Inv C E.n S A a w → aresL E A rs = some (A', vs) →
    ∃ S' xs, (∀ b, S b → S' b) ∧ Inv C E.n S' A' a w ∧ (rs.mapM (resRun a.tmps)).run P w = .ok xs w ∧ All2 (RT S' (fun _ => False) w) vs xs ∧ ∀ v, v ∈ vs → cleanT v = true
  | [], vs, S, A, A', h, hr => by
    simp [aresL] at hr
    obtain ⟨rfl, rfl⟩ := hr
    exact ⟨S, [], fun _ hb => hb, h, by simp, trivial, by simp⟩
  | r :: rs, vs, S, A, A', h, hr => by
    unfold aresL at hr
    split at hr
    · rename_i A₁ v h1
      split at hr
      · rename_i A₂ vs' h2
        simp at hr
        obtain ⟨rfl, rfl⟩ := hr
        obtain ⟨S₁, x, hres⟩ := aresS_ok hte h h1
        obtain ⟨S₂, xs, i1, i2, i3, i4, i5⟩ := aresL_ok hte hres.inv h2
        refine ⟨S₂, x :: xs, fun b hb => i1 b (hres.mono b hb), i2, ?_, ⟨RT.up i1 hres.rel, i4⟩, ?_⟩
        · simp [List.mapM_cons, hres.run, i3]
        · intro u hu
          rcases List.mem_cons.1 hu with rfl | hu
          · exact hres.clean
          · exact i5 u hu
      · simp at hr
    · simp at hr
theorem results_eq (fn : Func) (tmps : Array Value) : results fn tmps = (do let vs ← fn.results.mapM (resRun tmps); pure (if h : vs.size = 1 then vs[0] else .tuple vs) : Sem Value) := by
  have h : (fun r : ResultVar => (match r with | .tmp t => pure (tmps.getD t undef) | .cell b t => (do loadVar t (← asAddr (tmps.getD b undef)) : Sem Value) : Sem Value)) = resRun tmps := by
    funext r
    cases r <;> rfl
  rw [← h]
  rfl
theorem run_results1 {fn : Func} {r : ResultVar} {x : Value} (hrs : fn.results.toList = [r]) (hr : (resRun a.tmps r).run P w = .ok x w) : (results fn a.tmps).run P w = .ok x w := by
  have h1 : fn.results = #[r] := by apply Array.ext'; simpa using hrs
  rw [results_eq, h1, Array.mapM_eq_mapM_toList]
  simp [hr]
theorem run_resultsL {fn : Func} {xs : List Value} (hne : xs.length ≠ 1) (hr : (fn.results.toList.mapM (resRun a.tmps)).run P w = .ok xs w) : (results fn a.tmps).run P w = .ok (.tuple xs.toArray) w := by
  rw [results_eq, Array.mapM_eq_mapM_toList]
  simp [hr, hne]
end
end Go.Gx

/-
  Gx32: a function keeps its contract when its body does so on frames.
  Conditions: none; the machine's soundness for functions.
-/
namespace Go.Gx
open Go

/-- The parameters that own something: those handed 'io'. -/
def iosOf : List AV → Nat → List Nat
  | [], _ => []
  | v :: r, i => if v.owner then i :: iosOf r (i + 1) else iosOf r (i + 1)

section
variable {P : Program} {C : Ctx} {E : Env} {S S' L : Nat → Prop} {A A' : Fr} {a : Act} {w : World}
theorem ios_snd : ∀ {vs : List AV} {xs ys : List Value} {k : Nat}, xs.length = vs.length → (∀ i, xs[i]? = ys[k + i]?) → (ioOf vs xs).map (·.2) = (iosOf vs k).map fun i => ys.getD i undef
  | [], [], _, _, _, _ => rfl
  | v :: vs, x :: xs, ys, k, hl, hx => by
    have h0 : ys[k]? = some x := by simpa using (hx 0).symm
    have ih := ios_snd (vs := vs) (xs := xs) (ys := ys) (k := k + 1) (by simpa using hl) (fun i => by have := hx (i + 1); simpa [Nat.add_assoc, Nat.add_comm 1 i] using this)
    unfold iosOf
    by_cases ho : v.owner = true
    · rw [ioOf_own ho, if_pos ho]
      simp [ih, List.getD, h0]
    · rw [ioOf_non (by simpa using ho), if_neg ho, ih]
  | [], _ :: _, _, _, h, _ => by simp at h
  | _ :: _, [], _, _, h, _ => by simp at h
theorem ios_ge : ∀ {vs : List AV} {k i : Nat}, i ∈ iosOf vs k → k ≤ i ∧ i < k + vs.length
  | [], _, _, h => by simp [iosOf] at h
  | v :: vs, k, i, h => by
    unfold iosOf at h
    have rec' : i ∈ iosOf vs (k + 1) → k ≤ i ∧ i < k + (v :: vs).length := fun h => by
      have := ios_ge h
      simp
      omega
    split at h
    · rcases List.mem_cons.1 h with rfl | h
      · simp
      · exact rec' h
    · exact rec' h
theorem ios_nodup : ∀ {vs : List AV} {k : Nat}, (iosOf vs k).Nodup
  | [], _ => List.nodup_nil
  | v :: vs, k => by
    unfold iosOf
    split
    · rw [List.nodup_cons]
      refine ⟨fun h => ?_, ios_nodup⟩
      have := ios_ge h
      omega
    · exact ios_nodup
theorem outsOf_ok : ∀ {ios : List Nat} {outs : List AV}, outsOf A ios = some outs → All2 (fun i v => look i A = some v ∧ outOK v = true) ios outs
  | [], outs, h => by
    simp [outsOf] at h
    subst h
    trivial
  | i :: ios, outs, h => by
    unfold outsOf at h
    split at h
    · rename_i v vs h1 h2
      split at h
      · rename_i hv
        simp at h
        subst h
        exact ⟨⟨h1, hv⟩, outsOf_ok h2⟩
      · simp at h
    · simp at h
theorem outOK_rv {ρ : Nat → Value} {v : AV} {x : Value} (hc : outOK v = true) (h : RV S L w ρ v x) : RV S (fun _ => False) w (fun _ => undef) v x := by
  cases v with
  | ow e c => exact h
  | ba c => exact h
  | bx l =>
    obtain ⟨b, e, cs, hx, hh, hr⟩ := h
    refine ⟨b, e, cs, hx, hh, ?_⟩
    have : ∀ (l : List AV) (cs : List Value), l.all outP = true → All2 (RP S L w) l cs → All2 (RP S (fun _ => False) w) l cs := by
      intro l
      induction l with
      | nil => intro cs _ h; cases cs <;> simp_all [All2]
      | cons v l ih =>
        intro cs hc h
        cases cs with
        | nil => simp [All2] at h
        | cons x cs =>
          simp only [List.all_cons, Bool.and_eq_true] at hc
          refine ⟨?_, ih cs hc.2 h.2⟩
          have h1 := h.1
          cases v <;> first | exact h1 | trivial | (simp [outP] at hc)
    exact this l cs hc hr
  | _ => simp [outOK] at hc
theorem outs_own (h : Inv C E.n S A a w) : ∀ {ios : List Nat} {outs : List AV}, ios.Nodup → All2 (fun i v => look i A = some v ∧ outOK v = true) ios outs →
    (ownAll w (outs.zip (ios.map (rho a)))).Nodup ∧ (∀ b, b ∈ ownAll w (outs.zip (ios.map (rho a))) → mine A a w (fun s => s ∈ ios) b) ∧ All2 (fun v x => RV S (fun _ => False) w (fun _ => undef) v x) outs (ios.map (rho a))
  | [], [], _, _ => ⟨by simp [ownAll], by simp [ownAll], trivial⟩
  | i :: ios, v :: outs, hn, ho => by
    rw [List.nodup_cons] at hn
    obtain ⟨i1, i2, i3⟩ := outs_own h hn.2 ho.2
    have hc : ownAll w ((v :: outs).zip ((i :: ios).map (rho a))) = owned w v (rho a i) ++ ownAll w (outs.zip (ios.map (rho a))) := by simp [ownAll]
    rw [hc]
    refine ⟨?_, ?_, ⟨outOK_rv ho.1.2 (h.rel i v ho.1.1), i3⟩⟩
    · rw [List.nodup_append]
      refine ⟨h.nd i v ho.1.1, i1, fun b hb b' hb' e => ?_⟩
      subst e
      obtain ⟨s, u, hs, hl, hb''⟩ := i2 b hb'
      exact h.dj i v s u ho.1.1 hl (fun e => hn.1 (e ▸ hs)) b hb hb''
    · intro b hb
      rcases List.mem_append.1 hb with hb | hb
      · exact ⟨i, v, List.mem_cons_self .., ho.1.1, hb⟩
      · obtain ⟨s, u, hs, hl, hb⟩ := i2 b hb
        exact ⟨s, u, List.mem_cons_of_mem _ hs, hl, hb⟩
  | [], _ :: _, _, h => h.elim
  | _ :: _, [], _, h => h.elim

/-! ### The entry -/
theorem look_frame : ∀ {vs : List AV} {k i : Nat} {v : AV}, look i (frameOf vs k) = some v → k ≤ i ∧ vs[i - k]? = some v
  | [], _, _, _, h => by simp [frameOf, look] at h
  | u :: vs, k, i, v, h => by
    simp only [frameOf, look] at h
    split at h
    · rename_i hk
      simp at hk h
      subst hk
      simp [h]
    · rename_i hk
      simp at hk
      obtain ⟨h1, h2⟩ := look_frame h
      refine ⟨by omega, ?_⟩
      have : i - k = (i - (k + 1)) + 1 := by omega
      rw [this]
      simpa using h2
theorem keys_frame : ∀ {vs : List AV} {k : Nat}, ((frameOf vs k).map (·.1)).Nodup ∧ ∀ i, i ∈ (frameOf vs k).map (·.1) → k ≤ i
  | [], _ => by simp [frameOf]
  | v :: vs, k => by
    obtain ⟨h1, h2⟩ := keys_frame (vs := vs) (k := k + 1)
    simp only [frameOf, List.map_cons, List.nodup_cons]
    refine ⟨⟨fun h => ?_, h1⟩, fun i hi => ?_⟩
    · have := h2 k h; omega
    · rcases List.mem_cons.1 hi with rfl | hi
      · exact Nat.le_refl _
      · have := h2 i hi; omega
theorem arg_ref {v : AV} (h : argOK v = true) : v.ref = [] ∧ v.fref = [] := by
  cases v with
  | fn f caps => exact ⟨by simpa [argOK, AV.ref] using h, rfl⟩
  | _ => first | exact ⟨rfl, rfl⟩ | (simp [argOK] at h)
theorem ownAll_zip : ∀ {vs : List AV} {xs : List Value}, xs.length = vs.length → ownAll w (ioOf vs xs) = (vs.zip xs).flatMap fun e => owned w e.1 e.2
  | [], [], _ => rfl
  | v :: vs, x :: xs, h => by
    have ih := ownAll_zip (vs := vs) (xs := xs) (by simpa using h)
    by_cases ho : v.owner = true
    · rw [ioOf_own ho]
      simp only [ownAll, List.flatMap_cons, List.zip_cons_cons] at ih ⊢
      rw [ih]
    · have ho : v.owner = false := by simpa using ho
      rw [ioOf_non ho]
      simp only [List.flatMap_cons, List.zip_cons_cons, owned_non ho, List.nil_append]
      exact ih
  | [], _ :: _, h => by simp at h
  | _ :: _, [], h => by simp at h
theorem entry_ok {vs : List AV} {xs : List Value} {n : Rg} (h : ArgsOK S L vs xs w) (hn : vs.length ≤ n.hi) :
    Inv { L := L, O := fun b => b ∈ ownAll w (ioOf vs xs), S₀ := S, w₀ := w, val := fun i => xs.getD i undef } n S (frameOf vs 0) { tmps := xs.toArray ++ Array.replicate (n.hi - xs.toArray.size) undef, defers := [] } w := by
  have hlen : xs.length = vs.length := h.rel.length
  let a : Act := { tmps := xs.toArray ++ Array.replicate (n.hi - xs.toArray.size) undef, defers := [] }
  have hrho : ∀ i, rho a i = xs.getD i undef := by
    intro i
    simp only [rho, a, Array.getD_eq_getD_getElem?, List.getD_eq_getElem?_getD, Array.getElem?_append, List.size_toArray]
    split
    · simp
    · rename_i hi
      rw [List.getElem?_eq_none (by omega), Array.getElem?_replicate]
      split <;> rfl
  have hlk : ∀ i v, look i (frameOf vs 0) = some v → ∃ x, vs[i]? = some v ∧ xs[i]? = some x ∧ rho a i = x ∧ RV S L w (fun _ => undef) v x ∧ argOK v = true := by
    intro i v hi
    obtain ⟨_, hv⟩ := look_frame hi
    simp only [Nat.sub_zero] at hv
    obtain ⟨x, hx, hr⟩ := h.rel.get hv
    exact ⟨x, hv, hx, by rw [hrho]; simp [hx], hr, h.ok v (List.mem_of_getElem? hv)⟩
  have hz := ownAll_zip (w := w) hlen
  have hnd := h.nd
  rw [hz] at hnd
  have hzip : ∀ (i : Nat) (v : AV) (x : Value), vs[i]? = some v → xs[i]? = some x → (vs.zip xs)[i]? = some (v, x) := fun i v x h1 h2 => by rw [List.getElem?_zip_eq_some]; exact ⟨h1, h2⟩
  refine ⟨?_, fun i _ => hrho i, Marks.nil, keys_frame.1, ?_, ?_, ?_, ?_, ?_, h.lt, fun _ hb => hb, fun _ hb => .inl hb, Mod.refl _ _, fun b hb => h.lt b (.inr hb)⟩
  · simp; omega
  · intro s v t hs ht
    obtain ⟨x, _, _, _, _, hok⟩ := hlk s v hs
    rw [(arg_ref hok).2] at ht
    simp at ht
  · intro s v hs
    obtain ⟨x, _, _, hx, hr, hok⟩ := hlk s v hs
    show RV S L w (rho a) v (rho a s)
    rw [hx]
    exact RV.wide (fun _ hb => hb) hr (arg_ref hok).1
  · intro s v hs
    obtain ⟨x, h1, h2, hx, hr, hok⟩ := hlk s v hs
    show (owned w v (rho a s)).Nodup
    rw [hx]
    exact flat_one (f := fun e : AV × Value => owned w e.1 e.2) hnd (hzip s v x h1 h2)
  · intro s v t u hs ht hne b hb
    obtain ⟨x, h1, h2, hx, _⟩ := hlk s v hs
    obtain ⟨y, h3, h4, hy, _⟩ := hlk t u ht
    change b ∈ owned w v (rho a s) at hb
    change b ∉ owned w u (rho a t)
    rw [hx] at hb
    rw [hy]
    exact flat_disj (f := fun e : AV × Value => owned w e.1 e.2) hnd (hzip s v x h1 h2) (hzip t u y h3 h4) hne b hb
  · intro s v hs b hb
    obtain ⟨x, h1, h2, hx, _⟩ := hlk s v hs
    change b ∈ owned w v (rho a s) at hb
    rw [hx] at hb
    have hm : b ∈ ownAll w (ioOf vs xs) := by
      rw [hz]
      exact List.mem_flatMap.2 ⟨(v, x), List.mem_of_getElem? (hzip s v x h1 h2), hb⟩
    exact ⟨(h.apart b hm).1, (h.apart b hm).2, .inl hm⟩
end
end Go.Gx

/-
  Gx33: a function keeps its contract when its body does so on frames.
  Conditions: none; the machine's soundness for functions.
-/
namespace Go.Gx
open Go

section
variable {P : Program} {C : Ctx} {E : Env} {S S' L : Nat → Prop} {A A' : Fr} {a : Act} {w w' : World}
theorem cleanT_all {l : List AV} (h : ∀ v, v ∈ l → cleanT v = true) : (AV.tp l).clean = true := by
  simp only [AV.clean]
  rw [List.all_eq_true]
  intro v hv
  have := h v hv
  cases v <;> first | rfl | (simp [cleanT] at this)
  exact List.all_eq_true.2 (fun u hu => by
    have := this u hu
    cases u <;> first | rfl | (simp [cleanP] at this))
/-- What is handed back at the end of a body. -/
theorem exit_ok {vs : List AV} {xs : List Value} {fn : Func} {K : AV → List AV → Prop} (hte : teOK P E.te = true) (hlen : xs.length = vs.length) (hlo : ∀ i, i ∈ iosOf vs 0 → i < E.n.lo)
    (h : Inv { L := L, O := fun b => b ∈ ownAll w (ioOf vs xs), S₀ := S, w₀ := w, val := fun i => xs.getD i undef } E.n S' A a w') (hK : aret E A fn.results.toList (iosOf vs 0) K) :
    ∃ x res outs S₂, (results fn a.tmps).run P w' = .ok x w' ∧ K res outs ∧ Gives S L vs xs w w' res outs x S₂ := by
  have hval : ∀ (S₁ : Nat → Prop) (A₁ : Fr), Inv { L := L, O := fun b => b ∈ ownAll w (ioOf vs xs), S₀ := S, w₀ := w, val := fun i => xs.getD i undef } E.n S₁ A₁ a w' → (ioOf vs xs).map (·.2) = (iosOf vs 0).map (rho a) := by
    intro S₁ A₁ hI
    rw [ios_snd (ys := xs) (k := 0) hlen (by simp)]
    refine List.map_congr_left fun i hi => ?_
    exact (hI.fix i (hlo i hi)).symm
  have fin : ∀ (S₁ : Nat → Prop) (A₁ : Fr) (x : Value) (res : AV) (outs : List AV), Inv { L := L, O := fun b => b ∈ ownAll w (ioOf vs xs), S₀ := S, w₀ := w, val := fun i => xs.getD i undef } E.n S₁ A₁ a w' →
      RV S₁ (fun _ => False) w' (fun _ => undef) res x → res.clean = true → (owned w' res x = [] ∨ ∃ s u, s ∉ iosOf vs 0 ∧ look s A₁ = some u ∧ (owned w' res x).Nodup ∧ ∀ b, b ∈ owned w' res x → b ∈ owned w' u (rho a s)) →
      outsOf A₁ (iosOf vs 0) = some outs → Gives S L vs xs w w' res outs x S₁ := by
    intro S₁ A₁ x res outs hI hr hc hown ho
    have hsnd := hval S₁ A₁ hI
    obtain ⟨o1, o2, o3⟩ := outs_own hI ios_nodup (outsOf_ok ho)
    refine ⟨hc, hI.ext, hI.s₀, hI.sg, fun b hb => hI.lt b (.inl hb), hr, by rw [hsnd]; exact o3, ?_, ?_⟩
    · rw [hsnd, List.nodup_append]
      rcases hown with h0 | ⟨s, u, hs, hl, hn, hsub⟩
      · rw [h0]
        exact ⟨List.nodup_nil, o1, by simp⟩
      · refine ⟨hn, o1, fun b hb b' hb' e => ?_⟩
        subst e
        exact hI.mine_not (o2 b hb') hs hl (hsub b hb)
    · intro b hb
      rw [hsnd] at hb
      rcases List.mem_append.1 hb with hb | hb
      · rcases hown with h0 | ⟨s, u, hs, hl, hn, hsub⟩
        · rw [h0] at hb; simp at hb
        · have := hI.apart s u hl b (hsub b hb)
          exact ⟨this.1, this.2.2⟩
      · have := hI.mine_apart (o2 b hb)
        exact ⟨this.1, this.2.2⟩
  unfold aret at hK
  split at hK
  · rename_i r hrs
    split at hK
    · rename_i A₁ v src h1
      split at hK
      · rename_i hsrc
        split at hK
        · rename_i outs ho
          obtain ⟨S₂, x, hres⟩ := ares1_ok hte h h1
          refine ⟨x, v, outs, S₂, run_results1 hrs hres.run, hK, fin S₂ A₁ x v outs hres.inv hres.rel hres.clean ?_ ho⟩
          rcases hres.own with ⟨_, h0⟩ | ⟨s, u, e, c, rfl, rfl, hl, hsub, _, _⟩
          · exact .inl h0
          · refine .inr ⟨s, u, by simpa using hsrc, hl, ?_, hsub⟩
            cases x with
            | slice p _ _ => cases p <;> simp [owned]
            | _ => simp [owned]
        · exact hK.elim
      · exact hK.elim
    · exact hK.elim
  · rename_i hne
    split at hK
    · rename_i A₁ vs' h1
      split at hK
      · rename_i outs ho
        obtain ⟨S₂, ys, i1, i2, i3, i4, i5⟩ := aresL_ok hte h h1
        have hl : ys.length ≠ 1 := by
          have h2 := i4.length
          have h3 : vs'.length = fn.results.toList.length := by
            clear h2 i3 i4 i5 i2 i1 ho hK
            have : ∀ (rs : List ResultVar) (vs : List AV) (A A₁ : Fr), aresL E A rs = some (A₁, vs) → vs.length = rs.length := by
              intro rs
              induction rs with
              | nil => intro vs A A₁ h; simp [aresL] at h; rw [h.2]; rfl
              | cons r rs ih =>
                intro vs A A₁ h
                unfold aresL at h
                split at h
                · split at h
                  · rename_i h2
                    simp at h
                    rw [← h.2]
                    simp [ih _ _ _ h2]
                  · simp at h
                · simp at h
            exact this _ _ _ _ h1
          intro h4
          rw [h2, h3] at h4
          obtain ⟨r, hr⟩ := List.length_eq_one_iff.1 h4
          exact hne r hr
        exact ⟨.tuple ys.toArray, .tp vs', outs, S₂, run_resultsL hl i3, hK, fin S₂ A₁ _ _ outs i2 ⟨ys, rfl, i4⟩ (cleanT_all i5) (.inl rfl) ho⟩
      · exact hK.elim
    · exact hK.elim

/-- What a body must do on frames. -/
def bodyE (E : Env) (fn : Func) (vs : List AV) (K : AV → List AV → Prop) : Exit → Fr → Prop
  | .normal, A | .ret, A => aret E A fn.results.toList (iosOf vs 0) K
  | _, _ => False
end
end Go.Gx

/-
  Gx34: a loop's law on frames.
  Conditions: none; an invariant and a measure.
-/
namespace Go.Gx
open Go

theorem iter_inv {step : Fr → (Fr → Prop) → Prop} (I : Nat → Fr → Prop) (hs : ∀ m A next, (∀ m' A', m' < m → I m' A' → next A') → I m A → step A next) : ∀ n m A, m < n → I m A → iter step n A
  | 0, m, A, h, _ => by omega
  | n + 1, m, A, h, hI => hs m A (iter step n) (fun m' A' hm hI' => iter_inv I hs n m' A' (by omega) hI') hI
/-- An invariant with a measure: what comes after the body may be any 'next' that holds wherever the invariant holds with a smaller measure. -/
theorem loop_inv {E : Env} {b : Code} {A : Fr} {K : Exit → Fr → Prop} (I : Nat → Fr → Prop) (m : Nat) (h0 : I m (restr (keepOf E b) A))
    (hs : ∀ m A (next : Fr → Prop), (∀ m' A', m' < m → I m' A' → next A') → I m A → AE E b A (thenE (fun A => next (restr (keepOf E b) A)) K)) : AE E (.loop b) A K :=
  ⟨m + 1, iter_inv I (fun m A next hn hI => hs m A next hn hI) (m + 1) m _ (by omega) h0⟩
end Go.Gx

/-
  Gx35: the machine's equations, one for each kind of code.
  Conditions: none; equations by unfolding.
-/
namespace Go.Gx
open Go

section
variable {E : Env} {A : Fr} {K : Exit → Fr → Prop}
theorem AE_skip : AE E .skip A K = K .normal A := rfl
theorem AE_exit {id : Nat} : AE E (.exit id) A K = K (.exit id) A := rfl
theorem AE_ret : AE E .ret A K = K .ret A := rfl
theorem AE_seq {a b : Code} : AE E (.seq a b) A K = AE E a A (thenE (fun A => AE E b A K) K) := rfl
theorem AE_block {id : Nat} {b : Code} : AE E (.block id b) A K = AE E b A (inB id K) := rfl
theorem AE_cond {c : Operand} {x y : Code} : AE E (.cond c x y) A K = (match opd A c with
    | some (.pv (.bool t)) => br t (AE E x A K) (AE E y A K)
    | _ => False) := rfl
theorem AE_region {id : Nat} {ops : Array Oper} : AE E (.region id ops false) A K = aops E ops ops.toList A (K .normal) := by
  show (True ∧ _) = _
  simp
theorem AE_draw {id : Nat} {ops : Array Oper} (h : pairsOK ops = true) : AE E (.region id ops true) A K = aops E ops ops.toList A (K .normal) := by
  show (pairsOK ops = true ∧ _) = _
  simp [h]
theorem has_lit {lo hi d : Nat} : (Rg.mk lo hi).has d = (decide (lo ≤ d) && decide (d < hi)) := by
  unfold Rg.has
  simp only
  congr 1
  · cases h : Nat.ble lo d
    · have : ¬ lo ≤ d := fun h' => by rw [Nat.ble_eq_true_of_le h'] at h; cases h
      simp [this]
    · have := Nat.le_of_ble_eq_true h
      simp [this]
  · cases h : Nat.blt d hi
    · have : ¬ d < hi := fun h' => by unfold Nat.blt at h; rw [Nat.ble_eq_true_of_le h'] at h; cases h
      simp [this]
    · have : d < hi := Nat.le_of_ble_eq_true h
      simp [this]
theorem dropR_nil {d : Nat} : dropR d [] = [] := rfl
theorem dropR_cons {d t : Nat} {v : AV} {r : Fr} : dropR d ((t, v) :: r) = if t == d then dropR d r else if v.ref.contains d then dropR d r else (t, v) :: dropR d r := by
  unfold dropR
  rw [List.filter_cons]
  by_cases h : t == d
  · simp [h]
  · simp only [h, Bool.not_false, Bool.true_and, Bool.false_eq_true, if_false]
    by_cases h' : v.ref.contains d <;> simp [h']
theorem dropF_nil {d : Nat} : dropF d [] = [] := rfl
theorem look_nil {s : Nat} {α : Type} : look s ([] : List (Nat × α)) = none := rfl
theorem look_cons {s t : Nat} {α : Type} {x : α} {r : List (Nat × α)} : look s ((t, x) :: r) = if t == s then some x else look s r := rfl
theorem upd_nil {s : Nat} {v : AV} : upd s v [] = [] := rfl
theorem upd_cons {s t : Nat} {v x : AV} {r : Fr} : upd s v ((t, x) :: r) = if t == s then (t, v) :: r else (t, x) :: upd s v r := rfl
theorem setd_eq {d : Nat} {v : AV} {A : Fr} : setd d v A = (d, v) :: dropR d A := rfl
end
end Go.Gx
