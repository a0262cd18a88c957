/-
  L1: loops of the models as folds over lists.
  Conditions: none; plain laws.
-/
import Derived.Test.YtjneiglpfdkehaaG3
namespace Go.Gl
open Go Go.Gx

section
variable {ρ : Type}
theorem brO_pos {p : Prop} [Decidable p] (h : p) (x y : Option ρ) : brO (decide p) x y = x := by simp [brO, h]
theorem brO_neg {p : Prop} [Decidable p] (h : ¬ p) (x y : Option ρ) : brO (decide p) x y = y := by simp [brO, h]
theorem brO_if (b : Bool) (x y : Option ρ) : brO b x y = if b = true then x else y := by cases b <;> rfl
theorem brO_tt (x y : Option ρ) : brO true x y = x := rfl
theorem brO_ff (x y : Option ρ) : brO false x y = y := rfl
theorem chk_pos {p : Prop} [Decidable p] (h : p) (x : Option ρ) : chk p x = x := by simp [chk, h]
theorem chk_T {d : Decidable True} (x : Option ρ) : @chk ρ True d x = x := by simp [chk]
theorem bnd_sm {α : Type} (a : α) (f : α → Option ρ) : bnd (some a) f = f a := rfl
theorem bnd_get {α : Type} {l : List α} {i : Nat} (h : i < l.length) (f : α → Option ρ) : bnd l[i]? f = f l[i] := by rw [List.getElem?_eq_getElem h]; rfl
theorem w64 {x : Int} (h : -9223372036854775808 ≤ x ∧ x ≤ 9223372036854775807) : IntKind.i64.wrap x = x := by
  have : IntKind.i64.wrap x = (x + 2^63) % 2^64 - 2^63 := by
    first | rfl | (unfold IntKind.wrap; simp [IntKind.bits, IntKind.signed]; omega)
  rw [this]
  omega
theorem w64s {i : Nat} (h : i < 9223372036854775807) : IntKind.i64.wrap ((i : Int) + 1) = ((i + 1 : Nat) : Int) := by
  rw [w64 (by omega)]; rfl
/-- Go on with a value, or end. -/
def orE {α : Type} (o : Option α) (f : α → Option ρ) (e : Option ρ) : Option ρ := match o with | some a => f a | none => e
theorem orE_some {α : Type} (a : α) (f : α → Option ρ) (e : Option ρ) : orE (some a) f e = f a := rfl
theorem orE_none {α : Type} (f : α → Option ρ) (e : Option ρ) : orE none f e = e := rfl
/-- A fold that may leave at each element. -/
def foldO {α σ : Type} (F : α → σ → (σ → Option ρ) → Option ρ) (k : σ → Option ρ) : List α → σ → Option ρ
  | [], s => k s
  | a :: l, s => F a s (foldO F k l)
theorem iter_list {α σ τ : Type} {step : τ → (τ → Option ρ) → Option ρ} (l : List α) (emb : Nat → σ → τ) (F : α → σ → (σ → Option ρ) → Option ρ) (k : σ → Option ρ)
    (hF : ∀ i s nx (h : i < l.length), step (emb i s) nx = F l[i] s (fun s' => nx (emb (i + 1) s')))
    (hk : ∀ s nx, step (emb l.length s) nx = k s) : ∀ (n i : Nat) (s : σ), i ≤ l.length → l.length < i + n → iterM step n (emb i s) = foldO F k (l.drop i) s
  | 0, i, s, h, hn => by omega
  | n + 1, i, s, h, hn => by
    show step (emb i s) (iterM step n) = _
    rcases Nat.lt_or_ge i l.length with hi | hi
    · rw [hF i s _ hi, List.drop_eq_getElem_cons hi]
      show _ = F l[i] s (foldO F k (l.drop (i + 1)))
      congr 1
      funext s'
      exact iter_list l emb F k hF hk n (i + 1) s' hi (by omega)
    · have : i = l.length := by omega
      subst this
      rw [hk, List.drop_length]
      rfl
/-- The same, where the number of a round is known too. -/
def foldI {α σ : Type} (F : Nat → α → σ → (σ → Option ρ) → Option ρ) (k : σ → Option ρ) : Nat → List α → σ → Option ρ
  | _, [], s => k s
  | i, a :: l, s => F i a s (foldI F k (i + 1) l)
theorem iter_idx {α σ τ : Type} {step : τ → (τ → Option ρ) → Option ρ} (l : List α) (emb : Nat → σ → τ) (F : Nat → α → σ → (σ → Option ρ) → Option ρ) (k : σ → Option ρ)
    (hF : ∀ i s nx (h : i < l.length), step (emb i s) nx = F i l[i] s (fun s' => nx (emb (i + 1) s')))
    (hk : ∀ s nx, step (emb l.length s) nx = k s) : ∀ (n i : Nat) (s : σ), i ≤ l.length → l.length < i + n → iterM step n (emb i s) = foldI F k i (l.drop i) s
  | 0, i, s, h, hn => by omega
  | n + 1, i, s, h, hn => by
    show step (emb i s) (iterM step n) = _
    rcases Nat.lt_or_ge i l.length with hi | hi
    · rw [hF i s _ hi, List.drop_eq_getElem_cons hi]
      show _ = F i l[i] s (foldI F k (i + 1) (l.drop (i + 1)))
      congr 1
      funext s'
      exact iter_idx l emb F k hF hk n (i + 1) s' hi (by omega)
    · have : i = l.length := by omega
      subst this
      rw [hk, List.drop_length]
      rfl
/-- The same over numbers. -/
theorem iter_range {σ τ : Type} {step : τ → (τ → Option ρ) → Option ρ} (b : Nat) (emb : Nat → σ → τ) (F : Nat → σ → (σ → Option ρ) → Option ρ) (k : σ → Option ρ)
    (hF : ∀ i s nx, i < b → step (emb i s) nx = F i s (fun s' => nx (emb (i + 1) s')))
    (hk : ∀ s nx, step (emb b s) nx = k s) (n i : Nat) (s : σ) (h : i ≤ b) (hn : b < i + n) : iterM step n (emb i s) = foldO F k (List.range' i (b - i)) s := by
  have e : List.range' i (b - i) = (List.range b).drop i := by
    rw [List.range_eq_range', List.drop_range']
    simp
  rw [e]
  refine iter_list (List.range b) emb F k ?_ ?_ n i s (by simpa using h) (by simpa using hn)
  · intro i s nx h
    simp only [List.getElem_range]
    exact hF i s nx (by simpa using h)
  · intro s nx
    rw [List.length_range]
    exact hk s nx
end
end Go.Gl
