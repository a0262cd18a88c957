/-
  Gx50: what came in, as the machine has it; a law's call, from its model.
  Conditions: none; bridges between the rows' reading of arguments and frames.
-/
import Derived.Test.YtjneiglpfdkehaaG3
import Derived.ProofKit
import Derived.Deep.Matrix
import Derived.ChangeSlices
import Derived.Below
namespace Go.Gx
open Go

def ok64 (x : Int) : Prop := -9223372036854775808 ≤ x ∧ x ≤ 9223372036854775807
def okL (l : List Int) : Prop := l.length ≤ 9223372036854775807 ∧ ∀ x, x ∈ l → ok64 x
def okR (l : List (List Int)) : Prop := l.length ≤ 9223372036854775807 ∧ ∀ r, r ∈ l → okL r
/-- All that lies in a world. -/
def here (w : World) (b : Nat) : Prop := b < w.heap.size

section
variable {H : Type} {enc : TypeId × Value → H} {P : Program} {w : World} {held : Bool}
theorem wf_ok64 {n : Int} (h : (Lit.int .i64 n).wf = true) : ok64 n := by
  have h' : (decide (IntKind.i64.min ≤ n) && decide (n ≤ IntKind.i64.max)) = true := h
  simp only [Bool.and_eq_true, decide_eq_true_eq] at h'
  exact h'
theorem All2.map_range {α β γ : Type} {R : α → β → Prop} (f : γ → α) (g : γ → β) : ∀ (l : List γ), (∀ x, x ∈ l → R (f x) (g x)) → All2 R (l.map f) (l.map g)
  | [], _ => trivial
  | x :: l, h => ⟨h x (List.mem_cons_self ..), All2.map_range f g l fun y hy => h y (List.mem_cons_of_mem _ hy)⟩
theorem seg_of {S : Nat → Prop} {a : Option Addr} {len cap : Nat} {cs : List Value} (hn : cs.length = len) (hl : len ≤ cap) (hc : ∀ a', a = some a' → ∀ i v, cs[i]? = some v → w.cell? (a'.add i) = some v) (h0 : a = none → len = 0) (hS : ∀ b, b < w.heap.size → S b) :
    Seg S w (.slice a len cap) cs := by
  subst hn
  refine ⟨a, cap, rfl, hl, ?_⟩
  cases cs with
  | nil => exact .inl rfl
  | cons c cs =>
    right
    cases a with
    | none => simp at h0
    | some a =>
      obtain ⟨b, off, spot⟩ := a
      have h1 := hc _ rfl 0 c rfl
      have hs : spot = none := by simpa [Addr.add] using World.cell?_spot h1
      subst hs
      refine ⟨b, off, rfl, hS _ (World.block_lt_of_cell? _ _ h1), fun i v hi => ?_⟩
      have := hc _ rfl i v hi
      rwa [WideShapes.add_plain] at this
/-- A slice of slices of numbers that came in. -/
theorem opens_rows {t e q : TypeId} {fuel : Nat} {v : Value} {x : DataW H × List MemPlace} (ht : P.underlying t = some (.slice e)) (he : P.underlying e = some (.slice q)) (hq : P.underlying q = some (.int .i64))
    (ce : P.cellsOf e = 1) (cq : P.cellsOf q = 1) (h : DataW.trod enc P w 0 (fun _ => true) held fuel t [v] = some x) : ∃ l, okR l ∧ ∀ (L : Nat → Prop), RPs (here w) L w (.ls (.rows l)) v := by
  rcases Deep.open_int_rows ht he hq ce cq h with ⟨h1, _⟩ | ⟨a, len, cap, A, L, C, Z, h1, _, hl, hm, _, hr⟩
  · simp only [List.cons.injEq, and_true] at h1
    subst h1
    refine ⟨[], ⟨by simp, by simp⟩, fun L => ⟨rfl, [], trivial, none, 0, rfl, Nat.le_refl _, .inl rfl⟩⟩
  · simp only [List.cons.injEq, and_true] at h1
    subst h1
    have hmax : maxLen = 9223372036854775807 := rfl
    refine ⟨(List.range len).map fun r => (Z r).take (L r), ⟨by simp; omega, ?_⟩, fun L' => ⟨rfl, (List.range len).map fun r => .slice (A r) (L r) (C r), ?_, ?_⟩⟩
    · intro r hr'
      obtain ⟨i, hi, rfl⟩ := List.mem_map.1 hr'
      obtain ⟨_, h2, h3, h4, h5, _⟩ := hr i (by have := List.mem_range.1 hi; omega)
      refine ⟨by simp; omega, fun x hx => wf_ok64 (h5 x (List.mem_of_mem_take hx))⟩
    · refine All2.map_range _ _ _ fun i hi => ?_
      obtain ⟨_, h2, h3, h4, _, h6, h7⟩ := hr i (by have := List.mem_range.1 hi; omega)
      refine seg_of (by simp; omega) h2 (fun a' ha k v hk => ?_) (fun h => by have := h6 h; omega) (fun b hb => hb)
      rw [List.getElem?_map, List.getElem?_take] at hk
      split at hk
      · rename_i hkl
        have hkz : k < (Z i).length := by omega
        rw [List.getElem?_eq_getElem hkz] at hk
        simp at hk
        rw [← hk, (h7 a' ha).2 k (by omega)]
        simp [List.getD, hkz]
      · simp at hk
    · refine seg_of (by simp) hl (fun a' ha k v hk => ?_) (fun h => by cases h) (fun b hb => .inl hb)
      cases ha
      rw [List.getElem?_map] at hk
      by_cases hkl : k < len
      · rw [List.getElem?_range hkl] at hk
        simp at hk
        rw [← hk]
        exact (hr k (by omega)).1
      · have : (List.range len)[k]? = none := List.getElem?_eq_none (by simp; omega)
        rw [this] at hk
        simp at hk
/-- A slice of numbers that came in. -/
theorem opens_ints {t e : TypeId} {fuel : Nat} {v : Value} {x : DataW H × List MemPlace} (ht : P.underlying t = some (.slice e)) (he : P.underlying e = some (.int .i64)) (ce : P.cellsOf e = 1)
    (h : DataW.trod enc P w 0 (fun _ => true) held fuel t [v] = some x) : ∃ l, okL l ∧ ∀ (L : Nat → Prop), RPs (here w) L w (.ls (.ints .i64 l)) v := by
  rcases ChangeShapes.open_ints ht he ce h with ⟨h1, _⟩ | ⟨a, len, cap, zs, h1, _, hl, hm, hz, _, hc, hw⟩
  · simp only [List.cons.injEq, and_true] at h1
    subst h1
    exact ⟨[], ⟨by simp, by simp⟩, fun L => ⟨rfl, [], rfl, none, 0, rfl, Nat.le_refl _, .inl rfl⟩⟩
  · simp only [List.cons.injEq, and_true] at h1
    subst h1
    have hmax : maxLen = 9223372036854775807 := rfl
    simp only [if_true] at hz
    refine ⟨zs.take len, ⟨by simp; omega, fun x hx => wf_ok64 (hw x (List.mem_of_mem_take hx))⟩, fun L' => ⟨rfl, (zs.take len).map (.int .i64), rfl, ?_⟩⟩
    refine seg_of (by simp; omega) hl (fun a' ha k v hk => ?_) (fun h => by cases h) (fun b hb => .inl hb)
    cases ha
    rw [List.getElem?_map, List.getElem?_take] at hk
    split at hk
    · have hkz : k < zs.length := by omega
      rw [List.getElem?_eq_getElem hkz] at hk
      simp at hk
      rw [← hk, hc k (by omega)]
      simp [List.getD, hkz]
    · simp at hk
theorem opens_int {t : TypeId} {fuel : Nat} {v : Value} {x : DataW H × List MemPlace} (ht : P.underlying t = some (.int .i64)) (h : DataW.trod enc P w 0 (fun _ => true) held fuel t [v] = some x) : ∃ n, v = .int .i64 n ∧ ok64 n := by
  obtain ⟨n, h1, _, hw⟩ := DataW.trod_int ht h
  simp only [List.cons.injEq, and_true] at h1
  exact ⟨n, h1, wf_ok64 hw⟩
end
/-- A law's call: from its entry and its model's answer. -/
theorem law_calls {P : Program} {gl : List (Nat × Sq)} {e : Ent} (he : EntOK P gl e) {w : World} {xs : List Value} {a : e.α} {b : e.β} (hm : e.m a = some b) (hres : e.emb b = (.pv (.bool true), []))
    (hG : Glob gl w (here w)) (hargs : All2 (RV (here w) (fun _ => False) w (fun _ => undef)) (e.enc a) xs) (hok : (e.enc a).all (fun v => argOK v && !v.owner) = true) :
    Calls P e.f xs.toArray w fun e w' => e = .returned (.bool true) ∧ RowKit.Below w.heap.size w w' := by
  rw [List.all_eq_true] at hok
  have hown : ioOf (e.enc a) xs = [] := ioOf_nil_of fun v hv => by have := hok v hv; simp at this; exact this.2
  refine (he.1 (here w) (fun _ => False) (e.enc a) xs w (fun v o => v = .pv (.bool true) ∧ o = []) hG ⟨fun v hv => by have := hok v hv; simp at this; exact this.1, hargs, ?_, ?_, ?_⟩ ⟨a, b, rfl, hm, by rw [hres]; exact ⟨rfl, rfl⟩⟩).mono ?_
  · rw [hown]; exact List.nodup_nil
  · rw [hown]; intro b hb; simp [ownAll] at hb
  · intro b hb
    rcases hb with hb | hb
    · exact hb
    · exact hb.elim
  · rintro x w' ⟨res, outs, v, S', rfl, ⟨rfl, rfl⟩, hg⟩
    refine ⟨by rw [show v = .bool true from hg.rres.1], hg.mod.os, hg.mod.tape, hg.mod.output, hg.mod.size, fun k hk => hg.mod.block k hk ?_⟩
    simp [hown, ownAll]
end Go.Gx
