/-
  Gx59: the order of rows of numbers, and sorted rows: definitions and small laws.
  Conditions: none.
-/
import Derived.Test.YtjneiglpfdkehaaG3
import Derived.Sort.Grow
import Derived.Shelf.SlSortCmp.Kit1
namespace Go.Gx
open Go

/-! ### Orders -/
def cmpL : List Int → List Int → Int
  | [], [] => 0
  | [], _ :: _ => -1
  | _ :: _, [] => 1
  | a :: r, b :: s => if a < b then -1 else if b < a then 1 else cmpL r s
def leL (a b : List Int) : Bool := !decide (cmpL b a < 0)
theorem cmpL_self : ∀ a, cmpL a a = 0
  | [] => rfl
  | a :: r => by
    have : ¬ a < a := by omega
    simp only [cmpL, this, if_false]
    exact cmpL_self r
theorem cmpL_flip : ∀ a b, (cmpL a b < 0 ↔ 0 < cmpL b a)
  | [], [] => by simp [cmpL]
  | [], _ :: _ => by simp [cmpL]
  | _ :: _, [] => by simp [cmpL]
  | a :: r, b :: s => by
    unfold cmpL
    by_cases h1 : a < b
    · have h2 : ¬ b < a := by omega
      simp [h1, h2]
    · by_cases h2 : b < a
      · simp [h1, h2]
      · simp only [h1, h2, if_false]
        exact cmpL_flip r s
theorem cmpL_zero : ∀ a b, cmpL a b = 0 → a = b
  | [], [], _ => rfl
  | [], _ :: _, h => by simp [cmpL] at h
  | _ :: _, [], h => by simp [cmpL] at h
  | a :: r, b :: s, h => by
    unfold cmpL at h
    split at h
    · simp at h
    · split at h
      · simp at h
      · rw [cmpL_zero r s h, show a = b by omega]
theorem cmpL_trans : ∀ a b c, cmpL a b < 0 → cmpL b c < 0 → cmpL a c < 0
  | [], [], _, h, _ => by simp [cmpL] at h
  | [], _ :: _, [], _, h => by simp [cmpL] at h
  | [], _ :: _, _ :: _, _, _ => by simp [cmpL]
  | _ :: _, [], _, h, _ => by simp [cmpL] at h
  | _ :: _, _ :: _, [], _, h => by simp [cmpL] at h
  | a :: r, b :: s, c :: t, h1, h2 => by
    unfold cmpL at h1 h2 ⊢
    by_cases a1 : a < b
    · by_cases a2 : b < c
      · rw [if_pos (by omega)]; omega
      · by_cases a3 : c < b
        · rw [if_neg a2, if_pos a3] at h2; omega
        · rw [if_pos (by omega)]; omega
    · by_cases a4 : b < a
      · rw [if_neg a1, if_pos a4] at h1; omega
      · rw [if_neg a1, if_neg a4] at h1
        by_cases a2 : b < c
        · rw [if_pos (by omega)]; omega
        · by_cases a3 : c < b
          · rw [if_neg a2, if_pos a3] at h2; omega
          · rw [if_neg a2, if_neg a3] at h2
            rw [if_neg (by omega), if_neg (by omega)]
            exact cmpL_trans r s t h1 h2
theorem leL_total (a b : List Int) : (leL a b || leL b a) = true := by
  unfold leL
  by_cases h : cmpL b a < 0
  · have := (cmpL_flip b a).1 h
    have h' : ¬ cmpL a b < 0 := by omega
    simp [h, h']
  · simp [h]
theorem leL_iff {a b : List Int} : leL a b = true ↔ cmpL a b ≤ 0 := by
  unfold leL
  have h1 := cmpL_flip b a
  simp
  omega
theorem leL_trans (a b c : List Int) (h1 : leL a b = true) (h2 : leL b c = true) : leL a c = true := by
  rw [leL_iff] at *
  by_cases a1 : cmpL a b = 0
  · rw [cmpL_zero _ _ a1]; exact h2
  · by_cases a2 : cmpL b c = 0
    · rw [← cmpL_zero _ _ a2]; exact h1
    · have := cmpL_trans a b c (by omega) (by omega)
      omega
theorem leL_antisymm {a b : List Int} (h1 : leL a b = true) (h2 : leL b a = true) : a = b := by
  rw [leL_iff] at *
  have h3 := cmpL_flip a b
  have h4 := cmpL_flip b a
  exact cmpL_zero a b (by omega)
/-- What the sorts make. -/
def sortI (l : List Int) : List Int := l.mergeSort fun x y => decide (x ≤ y)
def sortL (l : List (List Int)) : List (List Int) := l.mergeSort leL
theorem sortL_unique {l l' : List (List Int)} (hp : l'.Perm l) (hs : l'.Pairwise fun a b => leL a b = true) : l' = sortL l :=
  List.Perm.eq_of_pairwise (fun _ _ _ _ h1 h2 => leL_antisymm h1 h2) hs (List.pairwise_mergeSort leL_trans leL_total l) (hp.trans (List.mergeSort_perm _ _).symm)

/-! ### A row that is laid anew -/
def sortIm (l : List Int) : Option (List Int) := if l.length < 2 ^ 40 then some (sortI l) else none
def deleteIm (l : List Int) (i j : Int) : Option (List Int) := if 0 ≤ i ∧ i ≤ j ∧ j ≤ l.length ∧ 0 < l.length ∧ l.length < 2 ^ 40 then some (l.take i.toNat ++ l.drop j.toNat) else none
def sortLm (n : Nat) (l : List (List Int)) : Option (List (List Int)) := if l.all (fun r => decide (r.length < n ∧ r.length < 2 ^ 40)) = true ∧ l.length < 2 ^ 40 then some (sortL l) else none

/-! ### Sets of points, one after the other -/
def bitOr (s p : Int) : Int := IntKind.u64.wrap ((BitVec.ofInt 64 s ||| BitVec.ofInt 64 (IntKind.u64.wrap (1 * 2 ^ (min p.toNat 64)))).toNat)
def chsL (f : Int → Int → List Int) (s : Int) : Nat → Int → List Int
  | 0, _ => []
  | k + 1, p => f (p + 1) (bitOr s p) ++ chsL f s k (p + 1)
/-- All sets of l of the points from p on, each with s. -/
def chs (pts : Int) : Nat → Int → Int → List Int
  | 0, _, s => [s]
  | l + 1, p, s => chsL (chs pts l) s (pts - l - p).toNat p

/-- The rounds over a list. -/
def rangeC {σ δ ρ : Type} (step : Int → σ → (σ → Option ρ) → (δ → Option ρ) → Option ρ) (kx : δ → Option ρ) : List Int → σ → (σ → Option ρ) → Option ρ
  | [], s, k => k s
  | x :: xs, s, k => step x s (fun s' => rangeC step kx xs s' k) kx
def choicesIm (p t : Int) : Option (Int × Int) := some (p, t)
end Go.Gx

/-
  Gx60: the library's sorts as entries: from the shelf's contracts.
  Conditions: none; the shelf's contract is handed in as a premise of each theorem.
-/
namespace Go.Gx
open Go Go.Sort Go.Proofs Go.RowKit

section
variable {α : Type} [Inhabited α] {S : Nat → Prop} {w : World}
theorem putCells_list {enc : α → Value} {d : Array α} {cur : Array Value} (h : d.size ≤ cur.size) : (putCells enc 0 d cur).toList.take d.size = d.toList.map enc ∧ (putCells enc 0 d cur).size = cur.size := by
  refine ⟨?_, by simp [putCells]⟩
  apply List.ext_getElem?
  intro i
  rw [List.getElem?_take]
  by_cases hi : i < d.size
  · rw [if_pos hi]
    have hc : i < cur.size := by omega
    simp only [putCells, Array.getElem?_toList, Array.getElem?_mapIdx, Array.getElem?_eq_getElem hc, Option.map_some, Nat.zero_le, Nat.zero_add, hi, and_self, if_true, Nat.sub_zero, List.getElem?_map, Array.getElem?_eq_getElem hi]
    rw [getElem!_pos d i hi]
  · rw [if_neg hi]
    symm
    rw [List.getElem?_eq_none_iff]
    simp
    omega
theorem row_anew {enc : α → Value} {d : Array α} {g m : Nat} {cur : Array Value} {e : TypeId} {os : Array Obj} (hh : w.heap[g]? = some (.cells cur e (0, 0))) (hd : d.size ≤ cur.size) :
    Mod (fun b => b = g) w (grow (putRow enc (Sort.ahead w m) g 0 d) os) ∧ ∃ cur', (grow (putRow enc (Sort.ahead w m) g 0 d) os).heap[g]? = some (.cells cur' e (0, 0)) ∧ cur'.size = cur.size ∧ cur'.toList.take d.size = d.toList.map enc := by
  have hg : g < w.heap.size := by
    rcases Nat.lt_or_ge g w.heap.size with h | h
    · exact h
    · rw [Array.getElem?_eq_none h] at hh; cases hh
  have hs : (putRow enc (Sort.ahead w m) g 0 d).heap.size = w.heap.size := by simp
  refine ⟨⟨rfl, rfl, rfl, by simp, ?_, by simp [grow, putRow, mapBlock, Sort.ahead]⟩, putCells enc 0 d cur, ?_, (putCells_list hd).2, (putCells_list hd).1⟩
  · intro b hb hbg
    rw [heap_grow_old _ _ (by rw [hs]; exact hb)]
    simp only [putRow, mapBlock, Array.getElem?_modify, heap_ahead]
    rw [if_neg (fun h => hbg h.symm)]
  · rw [heap_grow_old _ _ (by rw [hs]; exact hg)]
    simp only [putRow, mapBlock, Array.getElem?_modify, heap_ahead, if_true, hh, Option.map_some, onCells]
theorem holds_of {enc : α → Value} {d : Array α} {g : Nat} {cur : Array Value} {e : TypeId} (hh : w.heap[g]? = some (.cells cur e (0, 0))) (ht : cur.toList.take d.size = d.toList.map enc) : Holds enc w g 0 d := by
  intro j hj
  have hc : cur[j]? = some (enc d[j]!) := by
    have h1 : (cur.toList.take d.size)[j]? = (d.toList.map enc)[j]? := by rw [ht]
    rw [List.getElem?_take, if_pos hj, List.getElem?_map, Array.getElem?_toList, Array.getElem?_toList, Array.getElem?_eq_getElem hj] at h1
    rw [h1, getElem!_pos d j hj]
    rfl
  constructor
  · simp [World.cell?, hh, hc]
  · simp [World.frozen?, hh]
end
/-- What a sort hands back keeps what is asked of a call. -/
theorem sort_gives {S L : Nat → Prop} {e : TypeId} {c c' : Sq} {x : Value} {ys : List Value} {vs : List AV} {w w' : World} (hargs : ArgsOK S L (.ow e c :: vs) (x :: ys) w) (hvs : ioOf vs ys = [])
    (hmod : Mod (fun b => b ∈ owned w (.ow e c) x) w w') (hown : Own S w' e c' x) : Gives S L (.ow e c :: vs) (x :: ys) w w' (.tp []) [.ow e c'] (.tuple #[]) S := by
  have hio : ioOf (.ow e c :: vs) (x :: ys) = [(.ow e c, x)] := by
    show (AV.ow e c, x) :: ioOf vs ys = _
    rw [hvs]
  have hall : ownAll w (ioOf (.ow e c :: vs) (x :: ys)) = owned w (.ow e c) x := by
    rw [hio]
    simp [ownAll]
  have hcl : ∀ b, S b → ¬ b ∈ owned w (.ow e c) x := fun b hb h => (hargs.apart b (by rw [hall]; exact h)).1 hb
  refine ⟨rfl, by rw [hall]; exact hmod, fun _ hb => hb, fun _ hb => .inl hb, fun b hb => Nat.lt_of_lt_of_le (hargs.lt b (.inl hb)) hmod.size, ⟨[], rfl, trivial⟩, ?_, ?_, ?_⟩
  · rw [hio]
    exact ⟨hown, trivial⟩
  · rw [hio]
    show ([] ++ ownAll w' [(AV.ow e c', x)]).Nodup
    cases x with
    | slice p _ _ => cases p <;> simp [ownAll, owned]
    | _ => simp [ownAll, owned]
  · intro b hb
    rw [hio] at hb
    have hb' : b ∈ owned w (.ow e c) x := by
      cases x with
      | slice p _ _ =>
        cases p with
        | none => simp [ownAll, owned] at hb
        | some a => simpa [ownAll, owned] using hb
      | _ => simp [ownAll, owned] at hb
    exact ⟨fun hs => hcl b hs hb', .inl (by rw [hall]; exact hb')⟩

/-! ### slices.Sort of numbers -/
def decI (e : TypeId) : List AV → Option (List Int)
  | [.ow e' (.ints .i64 l)] => if e' == e then some l else none
  | _ => none
theorem decI_ok {e : TypeId} (vs : List AV) (a : List Int) (h : decI e vs = some a) : vs = [.ow e (.ints .i64 a)] := by
  unfold decI at h
  split at h
  · split at h
    · rename_i he
      simp only [beq_iff_eq] at he
      cases h
      rw [he]
    · cases h
  · cases h
def sortIE (f : FuncId) (e : TypeId) : Ent := { f := f, ms := [.io], α := List Int, β := List Int, dec := decI e, enc := fun l => [.ow e (.ints .i64 l)], emb := fun l => (.tp [], [.ow e (.ints .i64 l)]), m := sortIm, hdec := decI_ok }
theorem sortI_ok {P : Program} {gl : List (Nat × Sq)} {f : FuncId} {e : TypeId} (hf : P.funcs[f]?.any (fun fn => fn.body.isSome && fn.name != "runtime.NumGoroutine") = true)
    (h1 : ∀ (blk off cap : Nat) (zs : List Int) (w : World), Holds (Value.int .i64) w blk off zs.toArray → blk < w.heap.size → zs.length < 4611686018427387904 →
      Calls P f #[.slice (some ⟨blk, off, none⟩) zs.length cap] w fun r w' => r = .returned (.tuple #[]) ∧ ∃ n os, w' = grow (putRow (Value.int .i64) (Sort.ahead w n) blk off (zs.mergeSort fun x y => decide (x ≤ y)).toArray) os)
    (h0 : ∀ (p : Option Addr) (cap : Nat) (w : World), Calls P f #[.slice p 0 cap] w fun r w' => r = .returned (.tuple #[]) ∧ w' = w) : EntOK P gl (sortIE f e) := by
  refine ⟨?_, hf⟩
  intro S L vs xs w K hG hargs hsem
  obtain ⟨l, b, rfl, hm, hK⟩ := hsem
  revert l b
  intro (l : List Int) (b : List Int) hargs hm hK
  have hm' : sortIm l = some b := hm
  unfold sortIm at hm'
  split at hm'
  · rename_i hlen
    cases hm'
    have hK' : K (.tp []) [.ow e (.ints .i64 (sortI l))] := hK
    have hargs' : ArgsOK S L [.ow e (.ints .i64 l)] xs w := hargs
    match xs, hargs', hargs'.rel with
    | [x], hargs', hrel =>
      obtain ⟨cs, hc, hlen2, hr⟩ : Own S w e (.ints .i64 l) x := hrel.1
      have hcs : cs = l.map (.int .i64) := hc
      rcases hr with ⟨rfl, hn⟩ | ⟨g, cap, cur, rfl, hbg, hh, hncap, hmax, hcur, htake⟩
      · have hl : l = [] := by
          cases l with
          | nil => rfl
          | cons _ _ => rw [hcs] at hn; simp at hn
        subst hl
        refine (h0 none 0 w).mono ?_
        rintro r w' ⟨rfl, rfl⟩
        exact ⟨.tp [], _, _, S, rfl, hK', sort_gives hargs' rfl (Mod.refl _ _) ⟨[], by simp [sortI, Cells], World.ownsRow_nil _ 0 e 1⟩⟩
      · have hg : g < w.heap.size := by
          rcases Nat.lt_or_ge g w.heap.size with h | h
          · exact h
          · rw [Array.getElem?_eq_none h] at hh; cases hh
        have hcl : cs.length = l.length := by rw [hcs]; simp
        have hH : Holds (Value.int .i64) w g 0 l.toArray := holds_of hh (by
          simp only [List.size_toArray]
          rw [Nat.mul_one, hcl] at htake
          rw [htake, hcs])
        rw [hcl]
        refine (h1 g 0 cap l w hH hg (by omega)).mono ?_
        rintro r w' ⟨rfl, n, os, rfl⟩
        have hsz : (l.mergeSort fun x y => decide (x ≤ y)).toArray.size = l.length := by simp
        obtain ⟨m1, cur', m2, m3, m4⟩ := row_anew (m := n) (os := os) (enc := Value.int .i64) (d := (l.mergeSort fun x y => decide (x ≤ y)).toArray) hh (by rw [hsz]; omega)
        rw [hsz] at m4
        refine ⟨.tp [], _, _, S, rfl, hK', sort_gives (c := .ints .i64 l) (by rw [hcl] at hargs'; exact hargs') rfl ?_ ?_⟩
        · refine ⟨m1.os, m1.tape, m1.output, m1.size, fun b hb hbo => m1.block b hb fun hbg => hbo ?_, m1.drawn⟩
          subst hbg
          simp [owned]
        · refine ⟨(sortI l).map (.int .i64), rfl, ?_, .inr ⟨g, cap, cur', ?_, Nat.zero_le _, m2, ?_, hmax, by rw [m3, hcur], ?_⟩⟩
          · simp [sortI]
          · simp [sortI]
          · simp [sortI]; omega
          · rw [Nat.mul_one]
            simp only [sortI, List.length_map, List.length_mergeSort]
            exact m4
  · cases hm'

/-! ### slices.SortFunc of lists of numbers, by their order -/
theorem mod_grow {w w' : World} (h : Mod (fun _ => False) w w') : ∃ q os, w' = grow (w.drewN q) os := by
  refine ⟨w'.drawn - w.drawn, w'.heap.extract w.heap.size w'.heap.size, ?_⟩
  have hd : w.drawn + (w'.drawn - w.drawn) = w'.drawn := by have := h.drawn; omega
  have hheap : w'.heap = w.heap ++ w'.heap.extract w.heap.size w'.heap.size := by
    apply Array.ext_getElem?
    intro i
    rw [Array.getElem?_append]
    by_cases hi : i < w.heap.size
    · rw [if_pos hi, h.block i hi (fun h => h)]
    · rw [if_neg hi, Array.getElem?_extract]
      have := h.size
      by_cases hi' : i < w'.heap.size
      · rw [if_pos (by omega)]
        congr 1
        omega
      · rw [if_neg (by omega), Array.getElem?_eq_none (by omega)]
  cases w' with
  | mk heap tape drawn os output =>
    have h1 := h.os
    have h2 := h.tape
    have h3 := h.output
    simp only at h1 h2 h3 hd hheap
    subst h1 h2 h3
    unfold grow World.drewN
    rw [← hheap]
    simp only [hd]
theorem row_mod {S : Nat → Prop} {M : Nat → Prop} {w w' : World} (hm : Mod M w w') (hS : ∀ b, S b → ¬ M b ∧ b < w.heap.size) {r : List Int} {x : Value} (h : Row S w r x) : Row S w' r x := by
  obtain ⟨a, cap, hx, hl, hc⟩ := h
  refine ⟨a, cap, hx, hl, ?_⟩
  rcases hc with hc | ⟨b, off, ha, hb, hcell⟩
  · exact .inl hc
  · refine .inr ⟨b, off, ha, hb, fun i v hi => ?_⟩
    have := hcell i v hi
    rw [← this]
    simp only [World.cell?]
    rw [hm.block b (hS b hb).2 (hS b hb).1]
/-- A row's value with what it reads as. -/
abbrev RowEl (S : Nat → Prop) (w : World) (n : Nat) : Type := { p : Value × List Int // Row S w p.2 p.1 ∧ (p.2.length < n ∧ p.2.length < 2 ^ 40) }
theorem rows_els {S : Nat → Prop} {w : World} {n : Nat} : ∀ {l : List (List Int)} {cs : List Value}, All2 (Row S w) l cs → (∀ r, r ∈ l → r.length < n ∧ r.length < 2 ^ 40) → ∃ d : List (RowEl S w n), d.map (fun x => x.1.1) = cs ∧ d.map (fun x => x.1.2) = l
  | [], [], _, _ => ⟨[], rfl, rfl⟩
  | r :: l, x :: cs, h, hn => by
    obtain ⟨d, h1, h2⟩ := rows_els h.2 fun r hr => hn r (List.mem_cons_of_mem _ hr)
    exact ⟨⟨(x, r), h.1, hn r (List.mem_cons_self ..)⟩ :: d, by simp [h1], by simp [h2]⟩
theorem els_rows {S : Nat → Prop} {w w' : World} {n : Nat} (h : ∀ r x, Row S w r x → Row S w' r x) : ∀ (d : List (RowEl S w n)), All2 (Row S w') (d.map fun x => x.1.2) (d.map fun x => x.1.1)
  | [] => trivial
  | x :: d => ⟨h _ _ x.2.1, els_rows h d⟩
def decL (e : TypeId) (g : FuncId) : List AV → Option (List (List Int))
  | [.ow e' (.rows l), .fn g' []] => if e' == e && g' == g then some l else none
  | _ => none
theorem decL_ok {e : TypeId} {g : FuncId} (vs : List AV) (a : List (List Int)) (h : decL e g vs = some a) : vs = [.ow e (.rows a), .fn g []] := by
  unfold decL at h
  split at h
  · split at h
    · rename_i he
      simp only [Bool.and_eq_true, beq_iff_eq] at he
      cases h
      rw [he.1, he.2]
    · cases h
  · cases h
def sortLE (f : FuncId) (e : TypeId) (g : FuncId) (n : Nat) : Ent := { f := f, ms := [.io, .lend], α := List (List Int), β := List (List Int), dec := decL e g, enc := fun l => [.ow e (.rows l), .fn g []], emb := fun l => (.tp [], [.ow e (.rows l)]), m := sortLm n, hdec := decL_ok }
theorem cf_swo {α : Type} (k : α → List Int) : SWO (ltOf fun x y : α => cmpL (k x) (k y)) := by
  refine ⟨fun x => ?_, fun x y z h1 h2 => ?_, fun x y z h1 h2 => ?_⟩
  · unfold ltOf; simp [cmpL_self]
  · unfold ltOf at *
    simp only [decide_eq_true_eq] at *
    exact cmpL_trans _ _ _ h1 h2
  · unfold ltOf at *
    simp only [decide_eq_false_iff_not] at *
    have a1 := cmpL_flip (k y) (k x)
    have a2 := cmpL_flip (k z) (k y)
    have a3 := cmpL_flip (k z) (k x)
    have a4 := cmpL_flip (k x) (k y)
    have a5 := cmpL_flip (k y) (k z)
    have a6 := cmpL_flip (k x) (k z)
    have h1' : leL (k y) (k x) = true := leL_iff.2 (by omega)
    have h2' : leL (k z) (k y) = true := leL_iff.2 (by omega)
    have := leL_iff.1 (leL_trans _ _ _ h2' h1')
    omega
theorem enter_of {P : Program} {f : FuncId} (hf : P.funcs[f]?.any (fun fn => fn.body.isSome && fn.name != "runtime.NumGoroutine") = true) (args : Array Value) (w : World) : (callFunc f args).run P w = .ok (.enter f args) w := by
  cases hfn : P.funcs[f]? with
  | none => simp [hfn] at hf
  | some fn =>
    simp [hfn] at hf
    obtain ⟨h1, h2⟩ := hf
    simp [callFunc, hfn, h2]
    intro hb
    rw [hb] at h1
    simp at h1
theorem sortL_ok {P : Program} {gl : List (Nat × Sq)} {f : FuncId} {e : TypeId} {g n : Nat} {ce : Ent} (hf : P.funcs[f]?.any (fun fn => fn.body.isSome && fn.name != "runtime.NumGoroutine") = true)
    (h1 : ∀ (α : Type) [Inhabited α] (enc : α → Value) (_ : OneCell enc) (cf : α → α → Int) (_ : SWO (ltOf cf)) (cb : Array Value) (blk off cap : Nat) (d : Array α) (w : World) (_ : ∀ args w, (callFunc g args).run P w = .ok (.enter g args) w) (_ : CmpLays1 P g cb enc cf blk off d.size w) (_ : Holds enc w blk off d)
      (_ : blk < w.heap.size) (_ : d.size < 4611686018427387904), Calls P f #[.slice (some ⟨blk, off, none⟩) d.size cap, .func (.func g) #[] cb] w fun e w' =>
      e = .returned (.tuple #[]) ∧ ∃ d' n os, PermIn 0 d.size d d' ∧ SortedIn (ltOf cf) 0 d.size d' ∧ w' = sortWorld enc w blk off n d' os)
    (h0 : ∀ (p : Option Addr) (cap : Nat) (fv : Value) (w : World), Calls P f #[.slice p 0 cap, fv] w fun r w' => r = .returned (.tuple #[]) ∧ w' = w)
    (hce : EntOK P gl ce) (hcf : ce.f = g) (hcm : ∀ a b : List Int, a.length < n ∧ a.length < 2 ^ 40 → b.length < n ∧ b.length < 2 ^ 40 → ∃ x y, ce.enc x = [.ls (.ints .i64 a), .ls (.ints .i64 b)] ∧ ce.m x = some y ∧ ce.emb y = (.pv (.int .i64 (cmpL a b)), [])) :
    EntOK P gl (sortLE f e g n) := by
  refine ⟨?_, hf⟩
  intro S L vs xs w K hG hargs hsem
  obtain ⟨l, b, rfl, hm, hK⟩ := hsem
  revert l b
  intro (l : List (List Int)) (b : List (List Int)) hargs hm hK
  have hm' : sortLm n l = some b := hm
  unfold sortLm at hm'
  split at hm'
  · rename_i hlen
    obtain ⟨hlr, hlen⟩ := hlen
    cases hm'
    have hK' : K (.tp []) [.ow e (.rows (sortL l))] := hK
    have hargs' : ArgsOK S L [.ow e (.rows l), .fn g []] xs w := hargs
    match xs, hargs', hargs'.rel with
    | [x, fv], hargs', hrel =>
      obtain ⟨cs, hc, hlen2, hr⟩ : Own S w e (.rows l) x := hrel.1
      obtain ⟨fcs, hfv, hfc⟩ : RV S L w (fun _ => undef) (.fn g []) fv := hrel.2.1
      have hc : All2 (Row S w) l cs := hc
      have hfc0 : fcs = [] := by
        cases fcs with
        | nil => rfl
        | cons _ _ => exact hfc.elim
      subst hfc0
      rcases hr with ⟨rfl, hn⟩ | ⟨gb, cap, cur, rfl, hbg, hh, hncap, hmax, hcur, htake⟩
      · have hl : l = [] := by
          have := hc.length
          exact List.eq_nil_of_length_eq_zero (by omega)
        subst hl
        refine (h0 none 0 fv w).mono ?_
        rintro r w' ⟨rfl, rfl⟩
        exact ⟨.tp [], _, _, S, rfl, hK', sort_gives hargs' rfl (Mod.refl _ _) ⟨[], by simp [sortL, Cells, All2], World.ownsRow_nil _ 0 e 1⟩⟩
      · have hg : gb < w.heap.size := by
          rcases Nat.lt_or_ge gb w.heap.size with h | h
          · exact h
          · rw [Array.getElem?_eq_none h] at hh; cases hh
        have hcl : cs.length = l.length := hc.length
        obtain ⟨d, hd1, hd2⟩ := rows_els (n := n) hc (fun r hr => by simpa using List.all_eq_true.1 hlr r hr)
        have hdl : d.length = cs.length := by rw [← hd1]; simp
        have hown : ¬ S gb := by
          have := (hargs'.apart gb (by simp [ioOf, ownAll, owned])).1
          exact this
        have hSlt : ∀ b, S b → ¬ b = gb ∧ b < w.heap.size := fun b hb => ⟨fun h => hown (h ▸ hb), hargs'.lt b (.inl hb)⟩
        cases d with
        | nil =>
          have hl0 : cs.length = 0 := by rw [← hdl]; rfl
          have hl : l = [] := List.eq_nil_of_length_eq_zero (by omega)
          subst hl
          rw [hl0]
          refine (h0 _ cap fv w).mono ?_
          rintro r w' ⟨rfl, rfl⟩
          refine ⟨.tp [], _, _, S, rfl, hK', sort_gives (by rw [hl0] at hargs'; exact hargs') rfl (Mod.refl _ _) ⟨[], by simp [sortL, Cells, All2], ?_, .inr ⟨gb, cap, cur, rfl, hbg, hh, Nat.zero_le _, hmax, hcur, by simp⟩⟩⟩
          rfl
        | cons d0 dr =>
          generalize hdd : d0 :: dr = d at *
          haveI : Inhabited (RowEl S w n) := ⟨d0⟩
          have hone : OneCell (fun x : RowEl S w n => x.1.1) := by
            intro x
            obtain ⟨a, cap', hx, _⟩ := x.2.1
            simp only [hx]
            rfl
          have hH : Holds (fun x : RowEl S w n => x.1.1) w gb 0 d.toArray := holds_of hh (by
            simp only [List.size_toArray]
            rw [Nat.mul_one, ← hdl] at htake
            rw [htake, hd1])
          have hcmp : CmpLays1 P g #[] (fun x : RowEl S w n => x.1.1) (fun x y => cmpL x.1.2 y.1.2) gb 0 d.toArray.size w := by
            intro m os dk hdk x y
            obtain ⟨m1, _⟩ := row_anew (m := m) (os := os) (enc := fun x : RowEl S w n => x.1.1) (d := dk) hh (by rw [hdk]; simp; omega)
            have rx := row_mod m1 hSlt x.2.1
            have ry := row_mod m1 hSlt y.2.1
            obtain ⟨ax, by', e1, e2, e3⟩ := hcm x.1.2 y.1.2 x.2.2 y.2.2
            have hS2 : ∀ b, S b → b < (sortWorld (fun x : RowEl S w n => x.1.1) w gb 0 m dk os).heap.size := fun b hb => Nat.lt_of_lt_of_le (hSlt b hb).2 m1.size
            have hG2 : Glob gl (sortWorld (fun x : RowEl S w n => x.1.1) w gb 0 m dk os) S := by
              intro gn c hgc
              obtain ⟨hSg, ee, fz, cs', hcells, hcc⟩ := hG gn c hgc
              refine ⟨hSg, ee, fz, cs', ?_, ?_⟩
              · rw [show (sortWorld (fun x : RowEl S w n => x.1.1) w gb 0 m dk os).heap[gn]? = w.heap[gn]? from m1.block gn (hSlt gn hSg).2 (hSlt gn hSg).1]
                exact hcells
              · cases c with
                | ints k l => exact hcc
                | bools l => exact hcc
                | rows l =>
                  exact All2.mono (fun r x hr => row_mod (S := fun _ => False) m1 (fun _ h => h.elim) hr) hcc
                | rows2 l =>
                  exact All2.mono (fun r x ⟨cs, h1, h2⟩ => by
                    obtain ⟨a, cap, hx, hl, hc⟩ := h2
                    rcases hc with hc | ⟨b, off, ha, hb, _⟩
                    · exact ⟨cs, All2.mono (fun r x hr => row_mod (S := fun _ => False) m1 (fun _ h => h.elim) hr) h1, a, cap, hx, hl, .inl hc⟩
                    · exact hb.elim) hcc
            have hcall := hce.1 S (fun _ => False) (ce.enc ax) [x.1.1, y.1.1] (sortWorld (fun x : RowEl S w n => x.1.1) w gb 0 m dk os) (fun v o => v = .pv (.int .i64 (cmpL x.1.2 y.1.2)) ∧ o = []) hG2
              (by
                rw [e1]
                refine ⟨?_, ?_, ?_, ?_, ?_⟩
                · intro v hv
                  simp only [List.mem_cons, List.not_mem_nil, or_false] at hv
                  rcases hv with rfl | rfl <;> rfl
                · refine ⟨⟨_, rfl, ?_⟩, ⟨_, rfl, ?_⟩, trivial⟩
                  · obtain ⟨a, cap, hx, hl, hc⟩ := rx
                    exact ⟨a, cap, hx, hl, hc.imp (fun h => h) fun ⟨b, off, h1, h2, h3⟩ => ⟨b, off, h1, .inl h2, h3⟩⟩
                  · obtain ⟨a, cap, hx, hl, hc⟩ := ry
                    exact ⟨a, cap, hx, hl, hc.imp (fun h => h) fun ⟨b, off, h1, h2, h3⟩ => ⟨b, off, h1, .inl h2, h3⟩⟩
                · simp [ioOf, ownAll]
                · intro b hb; simp [ioOf, ownAll] at hb
                · intro b hb
                  rcases hb with hb | hb
                  · exact hS2 b hb
                  · exact hb.elim) ⟨ax, by', rfl, e2, by rw [e3]; exact ⟨rfl, rfl⟩⟩
            rw [hcf] at hcall
            refine hcall.mono ?_
            rintro r w' ⟨res, outs, v, S', rfl, ⟨rfl, rfl⟩, hg'⟩
            refine ⟨by rw [show v = .int .i64 (cmpL x.1.2 y.1.2) from hg'.rres.1], ?_⟩
            have hmm := hg'.mod
            rw [e1] at hmm
            exact mod_grow (by simpa [ioOf, ownAll] using hmm)
          have hds : d.toArray.size = cs.length := by simp [hdl]
          have hcall := h1 (RowEl S w n) (fun x => x.1.1) hone (fun x y => cmpL x.1.2 y.1.2) (cf_swo fun x : RowEl S w n => x.1.2) #[] gb 0 cap d.toArray w (enter_of (by rw [← hcf]; exact hce.2)) hcmp hH hg (by rw [hds]; omega)
          rw [hds] at hcall
          rw [hfv]
          refine hcall.mono ?_
          rintro r w' ⟨rfl, d', m, os, hperm, hsort, rfl⟩
          have hd's : d'.size = cs.length := by rw [hperm.1, hds]
          obtain ⟨m1, cur', m2, m3, m4⟩ := row_anew (m := m) (os := os) (enc := fun x : RowEl S w n => x.1.1) (d := d') hh (by rw [hd's]; omega)
          have hpl : (d'.toList.map fun x => x.1.2) = sortL l := by
            refine sortL_unique ?_ ?_
            · rw [← hd2]
              refine List.Perm.map _ ?_
              have := hperm.2.2
              have e1 : (d'.extract 0 cs.length).toList = d'.toList := by rw [← hd's]; simp
              have e2 : (d.toArray.extract 0 cs.length).toList = d := by rw [← hds]; simp
              rw [e1, e2] at this
              exact this
            · rw [List.pairwise_iff_getElem]
              intro i j hi hj hij
              have hj' : j < d'.size := by simpa using hj
              have hi' : i < d'.size := by omega
              have := hsort i j (Nat.zero_le _) hij (by rw [← hd's]; exact hj')
              rw [getElem!_pos d' j hj', getElem!_pos d' i hi'] at this
              unfold ltOf at this
              simp only [List.getElem_map, Array.getElem_toList]
              unfold leL
              rw [this]
              rfl
          refine ⟨.tp [], _, _, S, rfl, hK', sort_gives (c := .rows l) (by have := hargs; rw [hfv] at this; exact this) rfl ?_ ?_⟩
          · refine ⟨m1.os, m1.tape, m1.output, m1.size, fun b hb hbo => m1.block b hb fun hbg => hbo ?_, m1.drawn⟩
            subst hbg
            simp [owned]
          · refine ⟨d'.toList.map fun x => x.1.1, ?_, ?_, .inr ⟨gb, cap, cur', ?_, Nat.zero_le _, m2, ?_, hmax, by rw [m3, hcur], ?_⟩⟩
            · rw [← hpl]
              exact els_rows (fun r x hr => row_mod m1 hSlt hr) d'.toList
            · simp
            · simp [hd's]
            · simp [hd's]; exact hncap
            · rw [Nat.mul_one]
              simp only [List.length_map, Array.length_toList]
              exact m4
  · cases hm'
end Go.Gx
