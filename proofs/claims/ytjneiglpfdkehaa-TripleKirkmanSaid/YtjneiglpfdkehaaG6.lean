/-
  Gx70: the sets of so many points, one after the other (design.choices): what the program hands to yield.
  Conditions: none; walks of three small functions.
-/
import Derived.Test.YtjneiglpfdkehaaG3
import Derived.Test.YtjneiglpfdkehaaG5
import Derived.Test.YtjneiglpfdkehaaProg
import Derived.Shelf.Abstract
import Derived.WalkKit
import Derived.OwnWalkIn
import Derived.TacticsInMore
import Derived.RegionIn
import Derived.LoopIn
import Derived.Stop.RegionWithIn
namespace Go.Gx
open Go Go.RowKit Go.Shelf Go.Proofs
attribute [local go_sem] Oper.semAt_some

def iOf : Value → Int
  | .int _ n => n
  | _ => 0
theorem wrap_small (n : Int) (h0 : 0 ≤ n) (h1 : n ≤ 1000) : IntKind.i64.wrap n = n := by
  have : n % (2 ^ 64 : Int) = n := by omega
  simp only [IntKind.wrap, IntKind.bits, this]
  have h2 : ¬ (n ≥ (2 ^ (64 - 1) : Int)) := by omega
  rw [if_neg]
  simp only [Bool.and_eq_true, decide_eq_true_eq]
  exact fun h => h2 h.2
theorem room_wideN (k : Nat) : Fence.wide.depth.isSome = true → 1 ≤ k := fun h => by simp [Fence.wide] at h
theorem round_any {m m' : Nat} {P : Program} {l : Nat} {f : FuncId} {tmps : Array Value} {assign body : Code} {w : World} {R : Ending → World → Prop}
    (h : RoundIn Fence.wide m P l f tmps assign body w R) : RoundIn Fence.wide m' P l f tmps assign body w R := ⟨h.1, fun c cs _ => h.2 c cs (room_wide _)⟩
theorem calls_any {m m' : Nat} {P : Program} {f : FuncId} {args : Array Value} {w : World} {R : Ending → World → Prop}
    (h : CallsIn Fence.wide m P f args w R) : CallsIn Fence.wide m' P f args w R := ⟨h.1, fun cs _ => h.2 cs (room_wide _)⟩

set_option maxRecDepth 100000 in
set_option maxHeartbeats 4000000 in
theorem ch_in (lp b3 pp b4 : Nat) (pts : Int) (hp0 : 0 ≤ pts) (hp1 : pts ≤ 64) (xs : List Int) (J : List Int → World → Prop) (Jx : World → Prop)
    (hdrew : ∀ pre W, J pre W → J pre W.drew)
    (hbox : ∀ pre W, J pre W → W.cell? ⟨b3, 0, none⟩ = some (.func (.yield lp) #[] #[]) ∧ W.cell? ⟨pp, 0, none⟩ = some (.int .i64 pts) ∧
      W.cell? ⟨b4, 0, none⟩ = some (.func (.func 59) #[] #[.pointer (some ⟨b3, 0, none⟩), .pointer (some ⟨pp, 0, none⟩), .pointer (some ⟨b4, 0, none⟩)]))
    (hY : ∀ m pre x suf W, xs = pre ++ x :: suf → J pre W → YieldAt Fence.wide m Try.prog lp #[.int .u64 x] W fun e W' => (e = .returned (.bool true) ∧ J (pre ++ [x]) W') ∨ (e = .returned (.bool false) ∧ Jx W')) :
    ∀ (l : Nat), l ≤ 64 → ∀ (m : Nat) (p s : Int) (pre suf : List Int) (W : World), 0 ≤ p → p ≤ 64 → xs = pre ++ chs pts l p s ++ suf → J pre W →
      CallsIn Fence.wide m Try.prog 59 #[.int .i64 p, .int .i64 l, .int .u64 s, .pointer (some ⟨b3, 0, none⟩), .pointer (some ⟨pp, 0, none⟩), .pointer (some ⟨b4, 0, none⟩)] W fun e W' =>
        ∃ b, e = .returned (.bool b) ∧ ((b = true ∧ J (pre ++ chs pts l p s) W') ∨ (b = false ∧ Jx W')) := by
  intro l
  induction l with
  | zero =>
    intro _ m p s pre suf W hpa hpb hxs hJ
    obtain ⟨c3, c1, c4⟩ := hbox pre W hJ
    obtain ⟨fn, tmps, assign, body, hy, hR⟩ := hY (m - 1) pre s suf W (by rw [hxs]; simp [chs]) hJ
    refine callsIn_of_wp Try.func59 rfl trivial ?_ rfl
    simp only [Try.ntmps59, List.size_toArray, List.length_cons, List.length_nil, Nat.reduceAdd, Nat.reduceSub, Array.replicate_succ, Array.replicate_zero, List.push_toArray, List.append_toArray, List.nil_append, List.cons_append]
    gi_wp2
    refine ⟨room_wideN _, hR.mono ?_⟩
    rintro e W3 (⟨rfl, hJ3⟩ | ⟨rfl, hx3⟩)
    · gi_wp2
      go_ret
      exact ⟨true, rfl, .inl ⟨rfl, hJ3⟩⟩
    · gi_wp2
      go_ret
      exact ⟨false, rfl, .inr ⟨rfl, hx3⟩⟩
  | succ l ih =>
    intro hl m p s pre suf W hpa hpb hxs hJ
    obtain ⟨c3, c1, c4⟩ := hbox pre W hJ
    have hn0 : ¬ ((l : Int) + 1 = 0) := by omega
    refine callsIn_of_wp Try.func59 rfl trivial ?_ rfl
    simp only [Try.ntmps59, List.size_toArray, List.length_cons, List.length_nil, Nat.reduceAdd, Nat.reduceSub, Array.replicate_succ, Array.replicate_zero, List.push_toArray, List.append_toArray, List.nil_append, List.cons_append]
    rw [show ((l + 1 : Nat) : Int) = (l : Int) + 1 from rfl]
    gi_wp2
    gi_loopw [10] (fun pv wr => ∃ (p' : Int) (pre' : List Int), pv = .int .i64 p' ∧ 0 ≤ p' ∧ p' ≤ 64 ∧ J pre' wr ∧ xs = pre' ++ chsL (chs pts l) s (pts - l - p').toNat p' ++ suf ∧ pre ++ chs pts (l + 1) p s = pre' ++ chsL (chs pts l) s (pts - l - p').toNat p') (fun pv _ => (65 - iOf pv).toNat)
    case atStart => exact ⟨p, pre, rfl, hpa, hpb, hJ, hxs, rfl⟩
    case round =>
      obtain ⟨p', pre', rfl, hpa', hpb', hJ', hxs', hpre'⟩ := hrel
      obtain ⟨d3, d1, d4⟩ := hbox pre' _ hJ'
      gi_wp2
      · -- a point more
        have hle : p' ≤ pts - ((l : Int) + 1) := by assumption
        have hsub : (l : Int) + 1 - 1 = l := by omega
        have hk : (pts - l - p').toNat = (pts - l - (p' + 1)).toNat + 1 := by omega
        have hcs : chsL (chs pts l) s (pts - l - p').toNat p' = chs pts l (p' + 1) (bitOr s p') ++ chsL (chs pts l) s (pts - l - (p' + 1)).toNat (p' + 1) := by rw [hk]; rfl
        have hw1 : IntKind.i64.wrap (p' + 1) = p' + 1 := wrap_small _ (by omega) (by omega)
        have hw2 : IntKind.i64.wrap (l : Int) = (l : Int) := wrap_small _ (by omega) (by omega)
        have hw3 : bits BinOp.or IntKind.u64 s (IntKind.u64.wrap (2 ^ p'.toNat)) = bitOr s p' := by
          have : min p'.toNat 64 = p'.toNat := by omega
          unfold bitOr
          rw [this, Int.one_mul]
          rfl
        have hx1 : xs = pre' ++ chs pts l (p' + 1) (bitOr s p') ++ (chsL (chs pts l) s (pts - l - (p' + 1)).toNat (p' + 1) ++ suf) := by rw [hxs', hcs]; simp
        gi_region_with (refine ⟨trivial, room_wideN _, ?_⟩; refine (ih (by omega) _ (p' + 1) (bitOr s p') pre' (chsL (chs pts l) s (pts - l - (p' + 1)).toNat (p' + 1) ++ suf) _ (by omega) (by omega) hx1 (hdrew _ _ hJ')).mono ?_; rintro e W3 ⟨b, rfl, hb⟩)
        rcases hb with ⟨rfl, hJ3⟩ | ⟨rfl, hx3⟩
        · gi_wp2
          go_roundw
          case rel => exact ⟨_, _, _, _, _, _, _, _, _, _, _, _, _, _, _, _, _, _, _, _, ⟨p' + 1, pre' ++ chs pts l (p' + 1) (bitOr s p'), rfl, by omega, by omega, hJ3, by rw [hx1]; simp, by rw [hpre', hcs]; simp⟩, rfl⟩
          case measure => simp [iOf]; omega
        · gi_wp2
          go_ret
          exact ⟨false, rfl, .inr ⟨rfl, hx3⟩⟩
      · -- no point is left
        have hgt : ¬ p' ≤ pts - ((l : Int) + 1) := by omega
        have hk : (pts - l - p').toNat = 0 := by omega
        go_ret
        rw [hk] at hxs' hpre'
        simp only [chsL, List.append_nil] at hxs' hpre'
        exact ⟨true, rfl, .inl ⟨rfl, by rw [hpre']; exact hJ'⟩⟩

theorem run_store_func {P : Program} {w : World} {a : Addr} {m : Go.Mode} (f : Fn) (x y : Array Value) : (store a (.func f x y) m).run P w = stored P w a (.func f x y) m := run_store P w a _ m rfl
attribute [local go_sem] run_store_func
theorem box_cell {W : World} {b : Nat} {v : Value} {t : TypeId} (h : W.heap[b]? = some (.cells #[v] t (0, 0))) : W.cell? ⟨b, 0, none⟩ = some v ∧ W.frozen? ⟨b, 0, none⟩ = false := by
  constructor <;> simp [World.cell?, World.frozen?, h]
theorem cells_of_cell' {W W' : World} (h : ∀ b, b < W.heap.size → W'.heap[b]? = W.heap[b]?) {b : Nat} {v : Value} (hc : W.cell? ⟨b, 0, none⟩ = some v) : W'.cell? ⟨b, 0, none⟩ = some v := by
  obtain ⟨o, ho, _⟩ := cells_of_cell hc
  exact (cell_same (h b (heap_lt ho))).trans hc
set_option maxRecDepth 100000 in
set_option maxHeartbeats 4000000 in
/-- The function that 'choices' hands back, called with yield. -/
theorem ch1_in (lp pp qq : Nat) (pts : Int) (hp0 : 0 ≤ pts) (hp1 : pts ≤ 64) (l : Nat) (hl : l ≤ 64) (J : List Int → World → Prop) (Jx : World → Prop) (W : World)
    (hpp : W.cell? ⟨pp, 0, none⟩ = some (.int .i64 pts)) (hqq : W.cell? ⟨qq, 0, none⟩ = some (.int .i64 l))
    (hdrew : ∀ pre W, J pre W → J pre W.drew)
    (hbox : ∀ pre W', J pre W' → W'.cell? ⟨W.heap.size, 0, none⟩ = some (.func (.yield lp) #[] #[]) ∧ W'.cell? ⟨pp, 0, none⟩ = some (.int .i64 pts) ∧
      W'.cell? ⟨W.heap.size + 1, 0, none⟩ = some (.func (.func 59) #[] #[.pointer (some ⟨W.heap.size, 0, none⟩), .pointer (some ⟨pp, 0, none⟩), .pointer (some ⟨W.heap.size + 1, 0, none⟩)]))
    (h0 : ∀ W', Mod (fun _ => False) W W' → W'.cell? ⟨W.heap.size, 0, none⟩ = some (.func (.yield lp) #[] #[]) →
      W'.cell? ⟨W.heap.size + 1, 0, none⟩ = some (.func (.func 59) #[] #[.pointer (some ⟨W.heap.size, 0, none⟩), .pointer (some ⟨pp, 0, none⟩), .pointer (some ⟨W.heap.size + 1, 0, none⟩)]) → J [] W')
    (hY : ∀ m pre x suf W, chs pts l 0 0 = pre ++ x :: suf → J pre W → YieldAt Fence.wide m Try.prog lp #[.int .u64 x] W fun e W' => (e = .returned (.bool true) ∧ J (pre ++ [x]) W') ∨ (e = .returned (.bool false) ∧ Jx W'))
    (m : Nat) :
    CallsIn Fence.wide m Try.prog 58 #[.func (.yield lp) #[] #[], .pointer (some ⟨pp, 0, none⟩), .pointer (some ⟨qq, 0, none⟩)] W fun e W' =>
      (∃ v, e = .returned v) ∧ (J (chs pts l 0 0) W' ∨ Jx W') := by
  have hlp := heap_lt (Classical.choose_spec (cells_of_cell hpp)).1
  have hlq := heap_lt (Classical.choose_spec (cells_of_cell hqq)).1
  refine callsIn_of_wp Try.func58 rfl trivial ?_ rfl
  simp only [Try.ntmps58, List.size_toArray, List.length_cons, List.length_nil, Nat.reduceAdd, Nat.reduceSub, Array.replicate_succ, Array.replicate_zero, List.push_toArray, List.append_toArray, List.nil_append, List.cons_append]
  gi_wp2
  refine ⟨trivial, room_wideN _, ?_⟩
  have hm : ∀ (o1 o2 : Obj), Mod (fun _ => False) W ((W.alloc o1).alloc o2) := fun o1 o2 => Mod.trans (Mod.alloc _ _) (Mod.alloc _ _) (fun _ _ h => h)
  have hJ0 := h0 _ (hm (.cells #[.func (.yield lp) #[] #[]] 98) (.cells #[.func (.func 59) #[] #[.pointer (some ⟨W.heap.size, 0, none⟩), .pointer (some ⟨pp, 0, none⟩), .pointer (some ⟨W.heap.size + 1, 0, none⟩)]] 99))
    (box_cell ((heap_alloc_old _ _ (by simp)).trans (World.alloc_heap_new W _))).1
    (box_cell (b := W.heap.size + 1) (by have := World.alloc_heap_new (W.alloc (.cells #[.func (.yield lp) #[] #[]] 98)) (.cells #[.func (.func 59) #[] #[.pointer (some ⟨W.heap.size, 0, none⟩), .pointer (some ⟨pp, 0, none⟩), .pointer (some ⟨W.heap.size + 1, 0, none⟩)]] 99); rw [World.size_alloc] at this; exact this)).1
  refine (ch_in lp W.heap.size pp (W.heap.size + 1) pts hp0 hp1 (chs pts l 0 0) J Jx hdrew hbox hY l hl (m - 1) 0 0 [] [] _ (by omega) (by omega) (by simp) hJ0).mono ?_
  rintro e W4 ⟨b, rfl, hb⟩
  gi_wp2
  go_end0
  exact ⟨⟨_, rfl⟩, hb.elim (fun h => .inl (by simpa using h.2)) (fun h => .inr h.2)⟩
end Go.Gx

/-
  Gx71: design.choices hands back its iterator.
  Conditions: none; a walk of a small function.
-/
namespace Go.Gx
open Go Go.RowKit Go.Shelf Go.Proofs
attribute [local go_sem] Oper.semAt_some

def choicesAV (p t : Int) : AV := .fn 58 [.lb [.pv (.int .i64 p)] 0, .lb [.pv (.int .i64 t)] 0]
def choicesDec : List AV → Option (Int × Int)
  | [.pv (.int .i64 p), .pv (.int .i64 t)] => some (p, t)
  | _ => none
def choicesIE : Ent where
  f := 42
  ms := [.lend, .lend]
  α := Int × Int
  β := Int × Int
  dec := choicesDec
  enc a := [.pv (.int .i64 a.1), .pv (.int .i64 a.2)]
  emb b := (choicesAV b.1 b.2, [])
  m a := choicesIm a.1 a.2
  hdec vs a h := by
    unfold choicesDec at h
    split at h
    · cases h; rfl
    · cases h
set_option maxRecDepth 100000 in
theorem ch0_in (p t : Int) (w : World) :
    CallsIn Fence.wide 0 Try.prog 42 #[.int .i64 p, .int .i64 t] w fun e w' => e = .returned (.func (.func 58) #[] #[.pointer (some ⟨w.heap.size, 0, none⟩), .pointer (some ⟨w.heap.size + 1, 0, none⟩)]) ∧
      w' = (w.alloc (.cells #[.int .i64 p] 3)).alloc (.cells #[.int .i64 t] 3) := by
  refine callsIn_of_wp Try.func42 rfl trivial ?_ rfl
  simp only [Try.ntmps42, List.size_toArray, List.length_cons, List.length_nil, Nat.reduceAdd, Nat.reduceSub, Array.replicate_succ, Array.replicate_zero, List.push_toArray, List.append_toArray, List.nil_append, List.cons_append]
  gi_wp2
  go_ret
  exact ⟨rfl, rfl⟩
theorem choices_ok (gl : List (Nat × Sq)) : EntOK Try.prog gl choicesIE := by
  refine ⟨?_, by kernel_rfl⟩
  intro S L vs xs w K hG hargs hsem
  obtain ⟨⟨p, t⟩, b, rfl, hb, hK⟩ := hsem
  cases hb
  obtain ⟨x, y, rfl⟩ : ∃ x y, xs = [x, y] := by
    have := hargs.rel.length
    match xs, this with
    | [x, y], _ => exact ⟨x, y, rfl⟩
  obtain ⟨⟨rfl, _⟩, ⟨rfl, _⟩, _⟩ := hargs.rel
  refine Calls.mono (callsIn_wide.1 (ch0_in p t w)) ?_
  rintro e w' ⟨rfl, rfl⟩
  have g0 := World.alloc_heap_new w (.cells #[.int .i64 p] 3)
  have g1 : ((w.alloc (.cells #[.int .i64 p] 3)).alloc (.cells #[.int .i64 t] 3)).heap[w.heap.size]? = some (.cells #[.int .i64 p] 3) := (heap_alloc_old _ _ (by simp)).trans g0
  have g2 : ((w.alloc (.cells #[.int .i64 p] 3)).alloc (.cells #[.int .i64 t] 3)).heap[w.heap.size + 1]? = some (.cells #[.int .i64 t] 3) := by
    have := World.alloc_heap_new (w.alloc (.cells #[.int .i64 p] 3)) (.cells #[.int .i64 t] 3)
    rw [World.size_alloc] at this
    exact this
  have hm : Mod (fun _ => False) w ((w.alloc (.cells #[.int .i64 p] 3)).alloc (.cells #[.int .i64 t] 3)) := Mod.trans (Mod.alloc _ _) (Mod.alloc _ _) (fun _ _ h => h)
  refine ⟨choicesAV p t, [], _, fun b => S b ∨ b = w.heap.size ∨ b = w.heap.size + 1, rfl, hK, ?_⟩
  refine ⟨rfl, ⟨hm.os, hm.tape, hm.output, hm.size, fun b hb _ => hm.block b hb (fun h => h), hm.drawn⟩, fun b hb => .inl hb, ?_, ?_, ?_, trivial, ?_, ?_⟩
  · rintro b (h | rfl | rfl)
    · exact .inl h
    · exact .inr (.inr (Nat.le_refl _))
    · exact .inr (.inr (Nat.le_succ _))
  · rintro b (h | rfl | rfl)
    · have := hargs.lt b (.inl h); simp; omega
    · simp; omega
    · simp
  · refine ⟨_, rfl, ⟨w.heap.size, 3, (0, 0), [.int .i64 p], rfl, .inl (.inr (.inl rfl)), g1, ⟨rfl, rfl, rfl⟩, trivial⟩, ⟨w.heap.size + 1, 3, (0, 0), [.int .i64 t], rfl, .inl (.inr (.inr rfl)), g2, ⟨rfl, rfl, rfl⟩, trivial⟩, trivial⟩
  · exact List.nodup_nil
  · intro b hb
    simp [owned, choicesAV, ownAll] at hb
end Go.Gx

/-
  Gx72: a loop over the sets of so many points, on frames.
  Conditions: none; the law of the loop's rounds.
-/
namespace Go.Gx
open Go Go.RowKit Go.Shelf Go.Proofs

theorem mark_inj : ∀ {l l' : List Nat}, l.map mark = l'.map mark → l = l'
  | [], [], _ => rfl
  | a :: l, b :: l', h => by
    simp only [List.map_cons, List.cons.injEq] at h
    obtain ⟨h1, h2⟩ := h
    have : a = b := by simp only [mark, Deferred.mk.injEq, Target.collected.injEq] at h1; exact h1.1
    rw [this, mark_inj h2]
  | [], _ :: _, h => by simp at h
  | _ :: _, [], h => by simp at h
def chDec : Option AV → Option (Int × Int)
  | some (.fn f [.lb [.pv (.int .i64 p)] 0, .lb [.pv (.int .i64 t)] 0]) => if f == 58 then some (p, t) else none
  | _ => none
/-- All slots, and what they hang on, lie below. -/
def low (lo : Nat) (A : Fr) : Bool := A.all fun e => Nat.blt e.1 lo && e.2.ref.all fun t => Nat.blt t lo
theorem low_slot {lo : Nat} {A : Fr} (h : low lo A = true) {s : Nat} {v : AV} (hl : look s A = some v) : s < lo ∧ ∀ t, t ∈ v.ref → t < lo := by
  have := List.all_eq_true.1 h _ (look_mem hl)
  simp only [Bool.and_eq_true, List.all_eq_true] at this
  exact ⟨Nat.le_of_ble_eq_true this.1, fun t ht => Nat.le_of_ble_eq_true (this.2 t ht)⟩
section
variable {C : Ctx} {n : Rg} {S S' : Nat → Prop} {A A' B : Fr} {a a' a₀ : Act} {w w' : World}
def ctxR (C : Ctx) (S : Nat → Prop) (A : Fr) (a a₀ : Act) (w : World) : Ctx := { L := C.L, O := mine A a w fun _ => True, S₀ := S, w₀ := w, val := rho a₀ }
theorem Inv.rebase (h : Inv C n S A a w) {lo : Nat} (hsz : a₀.tmps.size = n.hi) (hlo : low lo A = true) (hf : ∀ i, i < lo → rho a₀ i = rho a i) (hd : a₀.defers = []) : Inv (ctxR C S A a a₀ w) ⟨lo, n.hi⟩ S A a₀ w := by
  have hr : ∀ s v, look s A = some v → rho a₀ s = rho a s := fun s v hl => hf s (low_slot hlo hl).1
  refine ⟨hsz, fun i _ => rfl, by rw [hd]; exact Marks.nil, h.keys, h.bxs, ?_, ?_, ?_, ?_, h.lt, fun b hb => hb, fun b hb => .inl hb, Mod.refl _ _, fun b hb => h.lt b (.inr hb)⟩
  · intro s v hl
    rw [hr s v hl]
    exact RV.keep (fun _ hb => hb) (fun _ _ => rfl) (h.rel s v hl) (fun t ht => hf t ((low_slot hlo hl).2 t ht)) (fun _ _ => rfl)
  · intro s v hl
    rw [hr s v hl]
    exact h.nd s v hl
  · intro s v t u hs ht hne b hb
    rw [hr s v hs] at hb
    rw [hr t u ht]
    exact h.dj s v t u hs ht hne b hb
  · intro s v hl b hb
    rw [hr s v hl] at hb
    obtain ⟨h1, h2, _⟩ := h.apart s v hl b hb
    exact ⟨h1, h2, .inl ⟨s, v, trivial, hl, hb⟩⟩
theorem Inv.unbase (h0 : Inv C n S A a w) {lo : Nat} (hf : ∀ i, i < lo → rho a₀ i = rho a i) (hlo : low lo B = true) (h : Inv (ctxR C S A a a₀ w) ⟨lo, n.hi⟩ S' B a' w') : Inv C n S' B a w' := by
  have hr : ∀ i, i < lo → rho a' i = rho a i := fun i hi => (h.fix i hi).trans (hf i hi)
  have hrs : ∀ s v, look s B = some v → rho a s = rho a' s := fun s v hl => (hr s (low_slot hlo hl).1).symm
  have hO : ∀ b, mine A a w (fun _ => True) b → C.O b ∨ C.w₀.heap.size ≤ b := fun b hb => (h0.mine_apart hb).2.2
  have hout : ∀ (b : Nat) (o : Obj), w.heap[b]? = some o → o.isCells = false → ¬ S b → w'.heap[b]? = some o ∧ ¬ S' b := by
    intro b o hb ho hS
    have hnm : ¬ mine A a w (fun _ => True) b := by
      rintro ⟨s, v, _, hl, hm⟩
      obtain ⟨cs, e, fz, hc⟩ := owned_cells (h0.rel s v hl) b hm
      rw [hb] at hc
      cases hc
      simp [Obj.isCells] at ho
    refine ⟨(h.ext.block b (heap_lt hb) hnm).trans hb, fun hS' => ?_⟩
    rcases h.sg b hS' with h1 | h1 | h1
    · exact hS h1
    · exact hnm h1
    · have := heap_lt hb
      exact absurd h1 (by show ¬ w.heap.size ≤ b; omega)
  refine ⟨h0.size, h0.fix, ?_, h.keys, h.bxs, ?_, ?_, ?_, ?_, h.lt, fun b hb => h.s₀ b (h0.s₀ b hb), ?_, ?_, h0.l₀⟩
  · obtain ⟨Ds, g1, g2, g3⟩ := h0.defers
    refine ⟨Ds, g1, g2, fun D hD => ?_⟩
    obtain ⟨k1, k2, k3⟩ := g3 D hD
    obtain ⟨k4, k5⟩ := hout D _ k1 rfl k3
    exact ⟨k4, k2, k5⟩
  · intro s v hl
    rw [hrs s v hl]
    exact RV.keep (fun _ hb => hb) (fun _ _ => rfl) (h.rel s v hl) (fun t ht => (hr t ((low_slot hlo hl).2 t ht)).symm) (fun _ _ => rfl)
  · intro s v hl
    rw [hrs s v hl]
    exact h.nd s v hl
  · intro s v t u hs ht hne b hb
    rw [hrs s v hs] at hb
    rw [hrs t u ht]
    exact h.dj s v t u hs ht hne b hb
  · intro s v hl b hb
    rw [hrs s v hl] at hb
    obtain ⟨h1, h2, h3⟩ := h.apart s v hl b hb
    refine ⟨h1, h2, ?_⟩
    rcases h3 with h3 | h3
    · exact hO b h3
    · exact .inr (Nat.le_trans h0.ext.size h3)
  · intro b hb
    rcases h.sg b hb with h1 | h1 | h1
    · exact h0.sg b h1
    · exact .inr (hO b h1)
    · exact .inr (.inr (Nat.le_trans h0.ext.size h1))
  · refine Mod.trans h0.ext h.ext fun k hk hM => ?_
    rcases hO k hM with h1 | h1
    · exact h1
    · omega
theorem Inv.out (h0 : Inv C n S A a w) {lo : Nat} {a₀ : Act} {B : Fr} (h : Inv (ctxR C S A a a₀ w) ⟨lo, n.hi⟩ S' B a' w') {b : Nat} {o : Obj} (hb : w.heap[b]? = some o) (ho : o.isCells = false) (hS : ¬ S b) : w'.heap[b]? = some o ∧ ¬ S' b := by
  have hnm : ¬ mine A a w (fun _ => True) b := by
    rintro ⟨s, v, _, hl, hm⟩
    obtain ⟨cs, e, fz, hc⟩ := owned_cells (h0.rel s v hl) b hm
    rw [hb] at hc
    cases hc
    simp [Obj.isCells] at ho
  refine ⟨(h.ext.block b (heap_lt hb) hnm).trans hb, fun hS' => ?_⟩
  rcases h.sg b hS' with h1 | h1 | h1
  · exact hS h1
  · exact hnm h1
  · have := heap_lt hb
    exact absurd h1 (by show ¬ w.heap.size ≤ b; omega)
theorem Inv.mineR {lo : Nat} (hf : ∀ i, i < lo → rho a₀ i = rho a i) (hlo : low lo B = true) (h : Inv (ctxR C S A a a₀ w) ⟨lo, n.hi⟩ S' B a' w') : ∀ b, mine B a w' (fun _ => True) b → mine A a w (fun _ => True) b ∨ w.heap.size ≤ b := by
  rintro b ⟨s, v, _, hl, hb⟩
  have hs := (low_slot hlo hl).1
  have e : rho a' s = rho a s := (h.fix s hs).trans (hf s hs)
  rw [← e] at hb
  exact (h.apart s v hl b hb).2.2
end
theorem assign_round {P : Program} {r : Option Nat} {id p q : Nat} {ty : TypeId} {pos : String} {af : Array Edge} {K : Act → World → Prop} {Kx : Exit → Act → World → Prop} {a : Act} {W : World}
    (h : K (a.put (some q) (a.eval (.tmp p))) W) : (Code.region id #[{ dst := some q, op := .assign (.tmp p), type := ty, pos := pos, after := af, guard := none }] false).wpIn (rnd r) 0 P (Exit.then K Kx) a W := by
  refine wpIn_region ?_
  show wpOpsIn _ _ _ _ _ [0] _ _
  unfold wpOpsIn
  simp only [List.getElem?_toArray, List.getElem?_cons_zero]
  rw [if_pos (by simp [Region.wanted])]
  exact wp_opIn (.inr rfl) (wp_value (x := a.eval (.tmp p)) rfl h)

theorem chDec_ok {x : Option AV} {p t : Int} (h : chDec x = some (p, t)) : x = some (choicesAV p t) := by
  unfold chDec at h
  split at h
  · rename_i f b d e
    split at h
    · rename_i hf
      simp only [beq_iff_eq] at hf
      cases h
      rw [hf]
      rfl
    · cases h
  · cases h
section
variable {ρ : Type} {E : Env} {orc : OrcO ρ}
set_option maxHeartbeats 1000000 in
/-- The loop 'for x := range choices(points, t)', on frames. -/
theorem range_cod (ho : OrcOK E orc) {T : Tab ρ} {γ σ δ : Type} (F : γ → σ → Fr) (G : δ → Fr) (decF : Fr → Option (γ × σ)) (decG : Fr → Option δ) (keep : List Nat) {g p q lo id : Nat} {ty : TypeId} {pos : String} {af : Array Edge} {body : Code}
    (step : γ → Int → σ → (σ → Option ρ) → (δ → Option ρ) → Option ρ)
    (hdF : ∀ A c s, decF A = some (c, s) → A = F c s) (hdG : ∀ A d, decG A = some d → A = G d)
    (hlF : ∀ c s, low lo (F c s) = true) (hlG : ∀ d, low lo (G d) = true)
    (hkp : nodupB keep = true) (hlo : E.n.lo ≤ lo) (hp : Nat.ble lo p = true) (hp' : Nat.blt p E.n.hi = true) (hq : (Rg.mk lo E.n.hi).has q = true)
    (hndf : ndf body = true) (hc : Cov Try.prog { E with n := ⟨lo, E.n.hi⟩ } T body)
    (hstep : ∀ c x s (nx : γ → σ → Option ρ) (kx : δ → Option ρ), AEO { E with n := ⟨lo, E.n.hi⟩ } orc T body (setd q (.pv (.int .u64 x)) (F c s))
      (fun e A => match e with | .normal => bnd (decF (restr keep A)) fun r => nx r.1 r.2 | .ret => bnd (decG (restr keep A)) fun d => kx d | _ => none) = step c x s (nx c) kx) :
    ∀ (A : Fr) (Ko : Exit → Fr → Option ρ) (r : ρ) (K : Exit → Fr → Prop),
      (bnd (chDec (look g A)) fun z => bnd (decF (restr keep A)) fun c => chk (0 ≤ z.1) <| chk (z.1 ≤ 64) <| chk (0 ≤ z.2) <| chk (z.2 ≤ 64) <|
        rangeC (step c.1) (fun d => Ko .ret (G d)) (chs z.1 z.2.toNat 0 0) c.2 (fun s => Ko .normal (F c.1 s))) = some r → (∀ e A, Ko e A = some r → K e A) →
      Sem Try.prog E (.rangeFunc (.tmp g) #[p] (.region id #[{ dst := some q, op := .assign (.tmp p), type := ty, pos := pos, after := af, guard := none }] false) body) A K := by
  intro A Ko r K h hk r₀ C S a w Q hr hE hI hn
  have hr0 : r₀ = none := hr.resolve_right (by simp [ndf])
  subst hr0
  obtain ⟨⟨pts, t⟩, hz, h⟩ := bnd_some h
  obtain ⟨⟨c, s⟩, hd, h⟩ := bnd_some h
  obtain ⟨hp0, h⟩ := chk_some h
  obtain ⟨hp1, h⟩ := chk_some h
  obtain ⟨ht0, h⟩ := chk_some h
  obtain ⟨ht1, h⟩ := chk_some h
  simp only at hp0 hp1 ht0 ht1 h
  have hI1 := hI.restr (nodupB_ok hkp)
  rw [hdF _ _ _ hd] at hI1
  have hgv := chDec_ok hz
  obtain ⟨cs, hx, hcs⟩ := hI.rel g _ hgv
  obtain ⟨x, y, rfl⟩ : ∃ x y, cs = [x, y] := by
    have := hcs.length
    match cs, this with
    | [x, y], _ => exact ⟨x, y, rfl⟩
  obtain ⟨⟨pp, e1, f1, cs1, rfl, hS1, hh1, hc1⟩, ⟨qq, e2, f2, cs2, rfl, hS2, hh2, hc2⟩, _⟩ := hcs
  have hcell : ∀ (b : Nat) (v : Value) (e : TypeId) (f : Nat × Nat) (cs : List Value) (W : World), All2 (RPs S C.L w) [.pv v] cs → w.heap[b]? = some (.cells cs.toArray e f) → W.heap[b]? = w.heap[b]? → W.cell? ⟨b, 0, none⟩ = some v := by
    intro b v e f cs W hcs hh hW
    match cs, hcs with
    | [x], ⟨⟨_, hx, _⟩, _⟩ =>
      rw [hh] at hW
      simp [World.cell?, hW, hx]
  -- the book-keeping's blocks
  obtain ⟨H, hH⟩ : ∃ H, w.heap.size = H := ⟨_, rfl⟩
  have hppH : pp < H := by rw [← hH]; exact heap_lt hh1
  have hqqH : qq < H := by rw [← hH]; exact heap_lt hh2
  have hbase : C.w₀.heap.size ≤ H := by rw [← hH]; exact hI.ext.size
  refine wpIn_rangeFunc (F := rnd none) ?_
  intro fn hfn
  obtain ⟨code, hcode⟩ : ∃ code, code = Code.region id #[{ dst := some q, op := .assign (.tmp p), type := ty, pos := pos, after := af, guard := none }] false := ⟨_, rfl⟩
  rw [← hcode]
  obtain ⟨rec, hrec⟩ : ∃ rec : LoopState → Option Code → Loop, rec = fun st pe => { state := st, pending := pe, fn, tmps := a.tmps, params := #[p], assign := code, body, defers := H } := ⟨_, rfl⟩
  obtain ⟨W1, hW1⟩ : ∃ W1, (w.alloc (.deferred (some []))).alloc (.loop (rec .ready none)) = W1 := ⟨_, rfl⟩
  have hsz1 : W1.heap.size = H + 2 := by rw [← hW1]; simp [hH]
  have hL1 : W1.heap[H + 1]? = some (.loop (rec .ready none)) := by
    rw [← hW1]; have := World.alloc_heap_new (w.alloc (.deferred (some []))) (.loop (rec .ready none)); rwa [World.size_alloc, hH] at this
  have hK1 : W1.heap[H]? = some (.deferred (some [])) := by
    rw [← hW1, ← hH]; exact (heap_alloc_old _ _ (by simp)).trans (World.alloc_heap_new w _)
  have hM1 : Mod (fun _ => False) w W1 := by rw [← hW1]; exact Mod.trans (Mod.alloc _ _) (Mod.alloc _ _) (fun _ _ h => h)
  have hgx : a.eval (.tmp g) = .func (.func 58) #[] #[.pointer (some ⟨pp, 0, none⟩), .pointer (some ⟨qq, 0, none⟩)] := hx
  refine ⟨H + 1, [{ target := .collected H, args := #[] }], W1, { target := .fn (.func 58) #[.pointer (some ⟨pp, 0, none⟩), .pointer (some ⟨qq, 0, none⟩)], args := #[.func (.yield (H + 1)) #[] #[]] }, W1, 58,
    #[.func (.yield (H + 1)) #[] #[], .pointer (some ⟨pp, 0, none⟩), .pointer (some ⟨qq, 0, none⟩)], W1, ?_, ?_, ?_, ?_, fun h => by simp [rnd, Fence.wide] at h, ?_⟩
  · have := run_enterLoop_outer (P := Try.prog) (w := w) fn a.tmps #[p] code body
    rw [hH] at this
    rw [← hW1, hrec]
    exact this
  · simp only [resolve, hgx]
    simp [go_sem]
  · intro f' _; trivial
  · simp [invoke, go_sem, enters_of Try.func58 (by kernel_rfl) rfl _ _]
  have htn : ((t.toNat : Nat) : Int) = t := Int.toNat_of_nonneg ht0
  have hfresh : ∀ b, H ≤ b → ¬ S b := fun b hb hS => by have := hI.lt b (.inl hS); omega
  let J : List Int → World → Prop := fun pre W => ∃ (S' : Nat → Prop) (c' : γ) (s' : σ) (suf : List Int), (∀ b, S b → S' b) ∧ chs pts t.toNat 0 0 = pre ++ suf ∧ Inv C E.n S' (F c' s') a W ∧
    rangeC (step c') (fun d => Ko .ret (G d)) suf s' (fun s => Ko .normal (F c' s)) = some r ∧ W.heap[H + 1]? = some (.loop (rec .ready none)) ∧ W.heap[H]? = some (.deferred (some [])) ∧ ¬ S' H ∧ ¬ S' (H + 1) ∧
    W.cell? ⟨W1.heap.size, 0, none⟩ = some (.func (.yield (H + 1)) #[] #[]) ∧ W.cell? ⟨pp, 0, none⟩ = some (.int .i64 pts) ∧
    W.cell? ⟨W1.heap.size + 1, 0, none⟩ = some (.func (.func 59) #[] #[.pointer (some ⟨W1.heap.size, 0, none⟩), .pointer (some ⟨pp, 0, none⟩), .pointer (some ⟨W1.heap.size + 1, 0, none⟩)]) ∧
    (∀ b, mine (F c' s') a W (fun _ => True) b → b ≠ H + 2 ∧ b ≠ H + 3)
  let Jx : World → Prop := fun W => ∃ (S' : Nat → Prop) (d : δ), (∀ b, S b → S' b) ∧ Inv C E.n S' (G d) a W ∧ Ko .ret (G d) = some r ∧ W.heap[H + 1]? = some (.loop (rec .done (some .ret))) ∧ W.heap[H]? = some (.deferred (some [])) ∧ ¬ S' H ∧ ¬ S' (H + 1)
  have hW1b : ∀ b, b < H → W1.heap[b]? = w.heap[b]? := fun b hb => hM1.block b (by rw [hH]; exact hb) (fun h => h)
  have hmineSame : ∀ (A : Fr) (W W' : World), (∀ s v, look s A = some v → owned W' v (rho a s) = owned W v (rho a s)) → ∀ b, mine A a W' (fun _ => True) b → mine A a W (fun _ => True) b := by
    rintro A W W' ho b ⟨s, v, _, hl, hb⟩
    exact ⟨s, v, trivial, hl, by rw [← ho s v hl]; exact hb⟩
  -- a turn of the record
  have hmarks : ∀ {S' : Nat → Prop} {A : Fr} {W : World} (o : Obj), Inv C E.n S' A a W → H + 1 < W.heap.size → (∃ o' : Obj, W.heap[H + 1]? = some o' ∧ o'.isCells = false) → ¬ S' (H + 1) → Inv C E.n S' A a (W.putObj (H + 1) o) := by
    intro S' A W o hi hlt hnc hns
    refine hi.other (mod_putObj W (H + 1) o) (fun r' e => by cases e; exact ⟨by omega, hns, hnc⟩) rfl ?_
    obtain ⟨Ds, g1, g2, g3⟩ := hi.defers
    obtain ⟨Ds0, k1, k2, k3⟩ := hI.defers
    have hDs : Ds = Ds0 := mark_inj (g1.symm.trans k1)
    refine ⟨Ds, g1, g2, fun D hD => ⟨?_, (g3 D hD).2⟩⟩
    have : D < H := by rw [← hH]; exact heap_lt (k3 D (hDs ▸ hD)).1
    exact (World.putObj_heap_other (by omega)).trans (g3 D hD).1
  have hturnO : ∀ {S' : Nat → Prop} {A : Fr} {W : World} (o : Obj), Inv C E.n S' A a W → (∃ o' : Obj, W.heap[H + 1]? = some o' ∧ o'.isCells = false) → ∀ b, mine A a (W.putObj (H + 1) o) (fun _ => True) b → mine A a W (fun _ => True) b := by
    intro S' A W o hi hnc
    refine hmineSame A W _ fun s v hl => owned_keep fun b hb => World.putObj_heap_other ?_
    rintro rfl
    obtain ⟨cs, e, fz, hc⟩ := owned_cells (hi.rel s v hl) _ hb
    obtain ⟨o', h1, h2⟩ := hnc
    rw [hc] at h1
    cases h1
    simp [Obj.isCells] at h2
  have hput : ∀ (W : World) (b : Nat) (v : Value) (o : Obj), (∃ o' : Obj, W.heap[H + 1]? = some o' ∧ o'.isCells = false) → W.cell? ⟨b, 0, none⟩ = some v → (W.putObj (H + 1) o).cell? ⟨b, 0, none⟩ = some v := by
    intro W b v o hnc hb
    refine (cell_same (World.putObj_heap_other ?_)).trans hb
    rintro rfl
    obtain ⟨o1, h1, h2⟩ := cells_of_cell hb
    obtain ⟨o2, h3, h4⟩ := hnc
    rw [h1] at h3
    cases h3
    rw [h2] at h4
    cases h4
  refine CallsIn.mono (ch1_in (H + 1) pp qq pts hp0 hp1 t.toNat (by omega) J Jx W1 (hcell pp _ _ _ _ W1 hc1 hh1 (hW1b pp hppH)) (by rw [htn]; exact hcell qq _ _ _ _ W1 hc2 hh2 (hW1b qq hqqH)) ?_ ?_ ?_ ?_ _) ?_
  · -- a draw
    rintro pre W ⟨S', c', s', suf, h1, h2, h3, h4⟩
    exact ⟨S', c', s', suf, h1, h2, h3.drew, h4⟩
  · rintro pre W ⟨S', c', s', suf, _, _, _, _, _, _, _, _, g1, g2, g3, _⟩
    exact ⟨g1, g2, g3⟩
  · -- at the beginning
    intro W' hm g1 g3
    have hm2 : Mod (fun _ => False) w W' := Mod.trans hM1 hm (fun _ _ h => h)
    have hb2 : ∀ b, b < H → W'.heap[b]? = w.heap[b]? := fun b hb => hm2.block b (by rw [hH]; exact hb) (fun h => h)
    refine ⟨S, c, s, chs pts t.toNat 0 0, fun _ h => h, rfl, ?_, h, (hm.block _ (by omega) (fun h => h)).trans hL1, (hm.block _ (by omega) (fun h => h)).trans hK1, hfresh H (Nat.le_refl _), hfresh _ (Nat.le_succ _), g1,
      hcell pp _ _ _ _ W' hc1 hh1 (hb2 pp hppH), g3, ?_⟩
    · refine hI1.other (row := none) ⟨hm2.os, hm2.tape, hm2.output, hm2.size, fun b hb _ => hm2.block b hb (fun h => h), hm2.drawn⟩ (fun r e => by cases e) rfl ?_
      obtain ⟨Ds, g1, g2, g3⟩ := hI1.defers
      exact ⟨Ds, g1, g2, fun D hD => ⟨(hb2 D (by rw [← hH]; exact heap_lt (g3 D hD).1)).trans (g3 D hD).1, (g3 D hD).2⟩⟩
    · intro b hb
      have hbH : b < H := by
        obtain ⟨s1, v1, _, hl, hb⟩ := hmineSame (F c s) w W' (fun s v hl => owned_keep fun b hb => hb2 b (by rw [← hH]; exact owned_lt (hI1.rel s v hl) b hb)) b hb
        rw [← hH]
        exact owned_lt (hI1.rel s1 v1 hl) b hb
      omega
  · -- a round
    rintro m pre x suf W hsuf ⟨S', c', s', suf', h1, h2, h3, h4, h5, h6, h7, h8, h9, h10, h11, h12⟩
    have hsx : suf' = x :: suf := List.append_cancel_left (h2.symm.trans hsuf)
    subst hsx
    have hy := run_yield (P := Try.prog) (args := #[.int .u64 x]) h5 (by rw [hrec]; rfl)
    rw [hrec] at hy
    refine ⟨fn, _, code, body, hy, round_any (m := 0) (roundIn_of_wpIn (F := Fence.wide) trivial ?_)⟩
    have hz : (#[p].zip #[Value.int .u64 x]).foldl (fun tmps (z : Tmp × Value) => tmps.setIfInBounds z.1 z.2) a.tmps = a.tmps.setIfInBounds p (.int .u64 x) := by simp
    obtain ⟨a₀, ha₀⟩ : ∃ a₀ : Act, a₀ = { tmps := a.tmps.setIfInBounds p (.int .u64 x), defers := [] } := ⟨_, rfl⟩
    have hps : p < a.tmps.size := by rw [hI.size]; exact Nat.le_of_ble_eq_true hp'
    have hplo : lo ≤ p := Nat.le_of_ble_eq_true hp
    have hfix : ∀ i, i < lo → rho a₀ i = rho a i := by
      intro i hi
      rw [ha₀]
      simp only [rho, Array.getD_eq_getD_getElem?, Array.getElem?_setIfInBounds]
      rw [if_neg (by omega)]
    have hev : a₀.eval (.tmp p) = .int .u64 x := by
      rw [ha₀]
      show (a.tmps.setIfInBounds p (.int .u64 x)).getD p undef = _
      simp [Array.getD_eq_getD_getElem?, hps]
    have hl2 : (W.putObj (H + 1) (.loop { rec .ready none with state := .busy })).heap[H + 1]? = some (.loop { rec .ready none with state := .busy }) := World.putObj_heap_same (heap_lt h5)
    have hk2 : (W.putObj (H + 1) (.loop { rec .ready none with state := .busy })).heap[H]? = some (.deferred (some [])) := (World.putObj_heap_other (by omega)).trans h6
    have hnc : ∃ o' : Obj, W.heap[H + 1]? = some o' ∧ o'.isCells = false := ⟨_, h5, rfl⟩
    have hI2 := hmarks (.loop { rec .ready none with state := .busy }) h3 (heap_lt h5) hnc h8
    have hm12 : ∀ b, mine (F c' s') a (W.putObj (H + 1) (.loop { rec .ready none with state := .busy })) (fun _ => True) b → b ≠ H + 2 ∧ b ≠ H + 3 := fun b hb => h12 b (hturnO _ h3 hnc b hb)
    have g9 := hput W _ _ (.loop { rec .ready none with state := .busy }) hnc h9
    have g10 := hput W _ _ (.loop { rec .ready none with state := .busy }) hnc h10
    have g11 := hput W _ _ (.loop { rec .ready none with state := .busy }) hnc h11
    have hbegin := run_beginRound (P := Try.prog) h5 (by rw [hrec])
    obtain ⟨W2, hW2⟩ : ∃ W2, W.putObj (H + 1) (.loop { rec .ready none with state := .busy }) = W2 := ⟨_, rfl⟩
    rw [hW2] at hl2 hk2 hI2 hm12 g9 g10 g11 hbegin
    have hpre : Code.wpIn (rnd (some (H + 1))) 0 Try.prog code (Exit.then (fun a₁ w₁ => ∃ w₂, (Instr.beginRound (H + 1)).run Try.prog w₁ = .ok () w₂ ∧ body.wpIn (rnd (some (H + 1))) 0 Try.prog (roundPost Try.prog (H + 1) fun e W' =>
        (e = .returned (.bool true) ∧ J (pre ++ [x]) W') ∨ (e = .returned (.bool false) ∧ Jx W')) a₁ w₂) (fun _ _ _ => False)) a₀ W := by
      rw [hcode]
      refine assign_round ⟨W2, hbegin, ?_⟩
      rw [hev]
      have hB := hI2.rebase (a₀ := a₀) (lo := lo) (by rw [ha₀]; simp [hI.size]) (hlF c' s') hfix (by rw [ha₀])
      have hB' := hB.put (d := q) (v := .pv (.int .u64 x)) (x := .int .u64 x) hq ⟨rfl, rfl⟩ (by simp [AV.ref]) rfl (by simp [AV.fref])
      have hE' : EnvOK Try.prog { E with n := ⟨lo, E.n.hi⟩ } (ctxR C S' (F c' s') a a₀ W2) := ⟨hE.te, (Glob.at (E := E) hE hI2 : Glob E.gl W2 S'), fun b hb => ⟨fun hm => (hI2.mine_apart hm).1 hb, hI2.lt b (.inl hb)⟩, hE.keep, hE.orc⟩
      have hs := hstep c' x s' (fun c s => rangeC (step c) (fun d => Ko .ret (G d)) suf s (fun s => Ko .normal (F c s))) (fun d => Ko .ret (G d))
      have h4' : step c' x s' (fun s'' => rangeC (step c') (fun d => Ko .ret (G d)) suf s'' (fun s => Ko .normal (F c' s))) (fun d => Ko .ret (G d)) = some r := h4
      rw [← hs] at h4'
      -- what a round leaves of the book-keeping
      have after : ∀ (B : Fr) (a' : Act) (W3 : World) (S'' : Nat → Prop), Inv (ctxR C S' (F c' s') a a₀ W2) ⟨lo, E.n.hi⟩ S'' B a' W3 →
          (W3.heap[H + 1]? = some (.loop { rec .ready none with state := .busy }) ∧ ¬ S'' (H + 1)) ∧ (W3.heap[H]? = some (.deferred (some [])) ∧ ¬ S'' H) ∧
          W3.cell? ⟨W1.heap.size, 0, none⟩ = some (.func (.yield (H + 1)) #[] #[]) ∧ W3.cell? ⟨pp, 0, none⟩ = some (.int .i64 pts) ∧
          W3.cell? ⟨W1.heap.size + 1, 0, none⟩ = some (.func (.func 59) #[] #[.pointer (some ⟨W1.heap.size, 0, none⟩), .pointer (some ⟨pp, 0, none⟩), .pointer (some ⟨W1.heap.size + 1, 0, none⟩)]) := by
        intro B a' W3 S'' hI4
        have keepc : ∀ (b : Nat) (v : Value), W2.cell? ⟨b, 0, none⟩ = some v → ¬ mine (F c' s') a W2 (fun _ => True) b → W3.cell? ⟨b, 0, none⟩ = some v := by
          intro b v hb hnm
          obtain ⟨o, hob, _⟩ := cells_of_cell hb
          exact (cell_same (hI4.ext.block b (heap_lt hob) hnm)).trans hb
        refine ⟨hI2.out hI4 hl2 rfl h8, hI2.out hI4 hk2 rfl h7, keepc _ _ g9 fun hm => (hm12 _ hm).1 (by omega), keepc _ _ g10 fun hm => ?_, keepc _ _ g11 fun hm => (hm12 _ hm).2 (by omega)⟩
        obtain ⟨n1, n2, _⟩ := hI2.mine_apart hm
        rcases hS1 with hS1 | hS1
        · exact n1 (h1 _ hS1)
        · exact n2 hS1
      refine AEO_ok (E := { E with n := ⟨lo, E.n.hi⟩ }) (K := fun e A => (match e with | .normal => bnd (decF (restr keep A)) fun r => rangeC (step r.1) (fun d => Ko .ret (G d)) suf r.2 (fun s => Ko .normal (F r.1 s)) | .ret => bnd (decG (restr keep A)) fun d => Ko .ret (G d) | _ => none) = some r)
        ho body hc h4' (fun e A h => h) (some (H + 1)) _ S' _ W2 _ (.inr hndf) hE' hB' ?_
      intro e
      cases e with
      | normal =>
        intro A' a' W3 S'' hI3 hS hK
        obtain ⟨⟨c2, s2⟩, hd2, hK⟩ := bnd_some hK
        have hI4 := hI3.restr (nodupB_ok hkp)
        rw [hdF _ _ _ hd2] at hI4
        obtain ⟨⟨r1, r2⟩, ⟨r3, r4⟩, r5, r6, r7⟩ := after _ _ _ _ hI4
        have hI5 := hI2.unbase hfix (hlF c2 s2) hI4
        have hnc3 : ∃ o' : Obj, W3.heap[H + 1]? = some o' ∧ o'.isCells = false := ⟨_, r1, rfl⟩
        have he := run_endRound (P := Try.prog) none r1
        have hob : (Obj.loop { ({ rec .ready none with state := .busy } : Loop) with state := if (none : Option Code).isNone then .ready else .done, pending := none }) = .loop (rec .ready none) := by rw [hrec]; rfl
        rw [hob] at he
        refine ⟨_, _, he, .inl ⟨rfl, S'', c2, s2, suf, fun b hb => hS b (h1 b hb), by rw [hsuf]; simp, hmarks _ hI5 (heap_lt r1) hnc3 r2, hK, World.putObj_heap_same (heap_lt r1), (World.putObj_heap_other (by omega)).trans r3, r4, r2,
          hput _ _ _ _ hnc3 r5, hput _ _ _ _ hnc3 r6, hput _ _ _ _ hnc3 r7, ?_⟩⟩
        intro b hb
        rcases Inv.mineR hfix (hlF c2 s2) hI4 b (hturnO _ hI5 hnc3 b hb) with hb | hb
        · exact hm12 b hb
        · have : H + 3 < W2.heap.size := by
            obtain ⟨o, hob, _⟩ := cells_of_cell g11
            have := heap_lt hob
            simp only at this
            omega
          omega
      | ret =>
        intro A' a' W3 S'' hI3 hS hK
        obtain ⟨d2, hd2, hK⟩ := bnd_some hK
        have hI4 := hI3.restr (nodupB_ok hkp)
        rw [hdG _ _ hd2] at hI4
        obtain ⟨⟨r1, r2⟩, ⟨r3, r4⟩, _⟩ := after _ _ _ _ hI4
        have hI5 := hI2.unbase hfix (hlG d2) hI4
        have hnc3 : ∃ o' : Obj, W3.heap[H + 1]? = some o' ∧ o'.isCells = false := ⟨_, r1, rfl⟩
        have he := run_endRound (P := Try.prog) (some .ret) r1
        have hob : (Obj.loop { ({ rec .ready none with state := .busy } : Loop) with state := if (some Code.ret).isNone then .ready else .done, pending := some .ret }) = .loop (rec .done (some .ret)) := by rw [hrec]; rfl
        rw [hob] at he
        exact ⟨_, _, he, .inr ⟨rfl, S'', d2, fun b hb => hS b (h1 b hb), hmarks _ hI5 (heap_lt r1) hnc3 r2, hK, World.putObj_heap_same (heap_lt r1), (World.putObj_heap_other (by omega)).trans r3, r4, r2⟩⟩
      | exit i => exact fun _ _ _ _ _ _ hK => by cases hK
      | goto i => exact fun _ _ _ _ _ _ hK => by cases hK
      | panic i => exact fun _ _ _ _ _ _ hK => by cases hK
      | outgrown => exact fun _ _ _ _ _ _ hK => by cases hK
    rw [ha₀, ← hz] at hpre
    exact hpre
  · -- behind the loop
    have fin : ∀ {S' : Nat → Prop} {A : Fr} {W : World} (o : Obj), Inv C E.n S' A a W → (∃ o' : Obj, W.heap[H + 1]? = some o' ∧ o'.isCells = false) → W.heap[H]? = some (.deferred (some [])) → ¬ S' H → ¬ S' (H + 1) →
        Inv C E.n S' A { a with defers := [{ target := .collected H, args := #[] }] ++ a.defers } (W.putObj (H + 1) o) := by
      intro S' A W o hi hnc hk' hn1 hn2
      refine hi.other (mod_putObj W (H + 1) o) (fun r' e => by cases e; exact ⟨by omega, hn2, hnc⟩) rfl ?_
      obtain ⟨Ds, g1, g2, g3⟩ := hi.defers
      obtain ⟨Ds0, k1, k2, k3⟩ := hI.defers
      have hDs : Ds = Ds0 := mark_inj (g1.symm.trans k1)
      have hlt : ∀ D, D ∈ Ds → D < H := fun D hD => by rw [← hH]; exact heap_lt (k3 D (hDs ▸ hD)).1
      refine ⟨H :: Ds, by rw [List.map_cons, ← g1]; rfl, List.nodup_cons.2 ⟨fun hm => Nat.lt_irrefl _ (hlt _ hm), g2⟩, fun D hD => ?_⟩
      rcases List.mem_cons.1 hD with rfl | hD
      · exact ⟨(World.putObj_heap_other (by omega)).trans hk', hbase, hn1⟩
      · have := hlt D hD
        exact ⟨(World.putObj_heap_other (by omega)).trans (g3 D hD).1, (g3 D hD).2⟩
    rintro e W' ⟨⟨v, rfl⟩, ⟨S', c', s', suf, h1, h2, h3, h4, h5, h6, h7, h8, _⟩ | ⟨S', d, h1, h3, h4, h5, h6, h7, h8⟩⟩
    · have hs : suf = [] := by
        have h2' := h2.symm
        simpa using h2'
      subst hs
      exact ⟨none, _, by have := run_endLoop (P := Try.prog) h5 (by rw [hrec]; simp); rw [hrec] at this; exact this, hn .normal (F c' s') _ _ S' (fin _ h3 ⟨_, h5, rfl⟩ h6 h7 h8) h1 (hk _ _ h4)⟩
    · exact ⟨some .ret, _, by have := run_endLoop (P := Try.prog) h5 (by rw [hrec]; simp); rw [hrec] at this; exact this, wpIn_ret (hn .ret (G d) _ _ S' (fin _ h3 ⟨_, h5, rfl⟩ h6 h7 h8) h1 (hk _ _ h4))⟩
end
end Go.Gx
