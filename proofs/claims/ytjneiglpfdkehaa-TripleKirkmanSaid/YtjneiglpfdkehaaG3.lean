/-
  Gx36: the machine's steps in a frame of a round (or of none).
  Conditions: no deferred call among the operations where the frame is a round's.
-/
import Derived.Test.YtjneiglpfdkehaaG2
import Derived.RangeFuncFrom
import Derived.RangeFuncLeaves
import Derived.LoopNIn
namespace Go.Gx
open Go

/-- The fence of frames of round r. -/
def rnd (r : Option Nat) : Fence := { Fence.wide with round := r }
theorem room_rnd (r : Option Nat) (n : Nat) : (rnd r).room n := fun _ h => by simp [rnd, Fence.wide] at h
theorem callsIn_rnd {r : Option Nat} {n : Nat} {P : Program} {f : FuncId} {args : Array Value} {w : World} {R : Ending → World → Prop} (h : Calls P f args w R) : CallsIn (rnd r) n P f args w R :=
  ⟨trivial, fun cs _ => (callsIn_wide.2 h : CallsIn Fence.wide n P f args w R).2 cs (room_wide _)⟩
theorem wpIn_depth {r : Option Nat} {n m : Nat} {P : Program} {c : Code} {Q : Exit → Act → World → Prop} {a : Act} {w : World} (h : c.wpIn (rnd r) n P Q a w) : c.wpIn (rnd r) m P Q a w :=
  fun b k cs hro hb _ => h b k cs hro hb (room_rnd r _)
/-- No deferred call among a code's operations, and no loop over a function. -/
def isDfr : Op → Bool
  | .defer _ => true
  | _ => false
def ndf : Code → Bool
  | .seq a b => ndf a && ndf b
  | .cond _ x y => ndf x && ndf y
  | .block _ b => ndf b
  | .loop b => ndf b
  | .region _ ops _ => ops.all fun o => !isDfr o.op
  | .skip | .exit _ | .ret => true
  | _ => false
/-- The operation is one that a frame of round r takes as any frame does. -/
def Calm (r : Option Nat) (o : Oper) : Prop := r = none ∨ isDfr o.op = false
theorem semAt_calm {r : Option Nat} {o : Oper} (h : Calm r o) (ρ : Operand → Value) : o.semAt r ρ = execOp ρ o := by
  rcases h with rfl | h
  · rfl
  · exact Oper.semAt_eq r ρ o fun c hc => by rw [hc] at h; cases h
theorem wp_opIn {r : Option Nat} {n : Nat} {P : Program} {o : Oper} {a : Act} {w : World} {next : Act → World → Prop} {Q : Exit → Act → World → Prop} (hc : Calm r o) (h : o.wp P a w next Q) : o.wpIn (rnd r) n P a w next Q := by
  have hd : ∀ k : Nat, (rnd r).depth.isSome = true → 1 ≤ k := fun k hk => by simp [rnd, Fence.wide] at hk
  refine ⟨fun _ _ => trivial, ?_⟩
  have e : o.semAt (rnd r).round a.eval = execOp a.eval o := semAt_calm hc a.eval
  rw [e]
  unfold Oper.wp at h
  cases hr : (execOp a.eval o).run P w with
  | ok x w' =>
    rw [hr] at h
    cases x with
    | value v => exact h
    | skip => exact h
    | defer d => exact h
    | enter f args => exact ⟨hd _, callsIn_rnd h⟩
    | row row args =>
      refine ⟨hd _, fun c cs _ => ?_⟩
      obtain ⟨v, w'', h1, h2⟩ := (h : Rows P row args w' _) c cs
      exact ⟨v, w'', h1, (stepsIn_wide.2 h2 : StepsIn (Machine.fenced P Fence.wide) P _ _)⟩
    | _ => exact h.elim
  | halt x w' =>
    rw [hr] at h
    cases x with
    | panic v => exact h
    | _ => exact h.elim
theorem okI_wpOpsIn {r : Option Nat} {n : Nat} {P : Program} {ops : Array Oper} {Q : Exit → Act → World → Prop} (hd : ∀ o, o ∈ ops → Calm r o) : ∀ {l : List Nat} {a : Act} {w : World}, okI P ops (Q .normal) l a w → wpOpsIn (rnd r) n P ops Q l a w
  | [], _, _, h => h
  | i :: l, a, w, h => by
    unfold okI at h
    unfold wpOpsIn
    split at h
    · rename_i ho
      rw [ho]
      exact okI_wpOpsIn hd h
    · rename_i o ho
      rw [ho]
      simp only
      unfold stepG at h
      split at h
      · rename_i hw
        rw [if_pos hw]
        exact wp_opIn (hd o (Array.mem_of_getElem? ho)) (stepK_wp (stepK_mono h fun a w h => okI_wpOpsIn hd h))
      · rename_i hw
        rw [if_neg hw]
        exact ⟨fun _ _ => trivial, okI_wpOpsIn hd h⟩
theorem okM_wpOpsIn {r : Option Nat} {n : Nat} {P : Program} {I : World → Prop} {ops : Array Oper} {Q : Exit → Act → World → Prop} (hd : ∀ o, o ∈ ops → Calm r o) : ∀ {l : List Nat} {a : Act} {w : World}, okM P I ops (Q .normal) l a w → wpOpsIn (rnd r) n P ops Q l a w
  | [], _, _, h => h
  | i :: l, a, w, h => by
    unfold okM at h
    unfold wpOpsIn
    split at h
    · rename_i ho
      rw [ho]
      exact okM_wpOpsIn hd h
    · rename_i o ho
      rw [ho]
      simp only
      unfold stepN at h
      split at h
      · rename_i hw
        rw [if_pos hw]
        exact wp_opIn (hd o (Array.mem_of_getElem? ho)) (stepM_wp (stepM_mono h fun a w h => okM_wpOpsIn hd h))
      · rename_i hw
        rw [if_neg hw]
        exact ⟨fun _ _ => trivial, okM_wpOpsIn hd h⟩
theorem calm_all {r : Option Nat} {id : Nat} {ops : Array Oper} {draw : Bool} (h : r = none ∨ ndf (.region id ops draw) = true) : ∀ o, o ∈ ops → Calm r o := by
  intro o ho
  refine h.imp (fun h => h) fun h => ?_
  unfold ndf at h
  have := Array.all_eq_true'.1 h o ho
  simpa using this
section
variable {P : Program} {C : Ctx} {E : Env} {S S' : Nat → Prop} {A : Fr} {a : Act} {w w' : World} {K : Fr → Prop} {Q : Exit → Act → World → Prop} {ops : Array Oper}
theorem region_okR {r : Option Nat} (hE : EnvOK P E C) (h : Inv C E.n S A a w) {id : Nat} {draw : Bool} (hd : r = none ∨ ndf (.region id ops draw) = true) (hp : br draw (pairsOK ops = true) True) (hK : aops E ops ops.toList A K) (hn : Nx C E.n S K (Q .normal)) :
    (Code.region id ops draw).wpIn (rnd r) 0 P Q a w := by
  have hc := calm_all hd
  cases draw with
  | false => exact wpIn_region (okI_wpOpsIn hc (aops_ok hE h hK hn))
  | true => exact wpIn_region_draw (fun t => let ⟨_, h⟩ := sched_ok hp _ t (aops_ok hE h.drew hK hn); okM_wpOpsIn hc h)
end
end Go.Gx

/-
  Gx37: blocks that hold no cells may turn; the marks of loops over functions at a function's end.
  Conditions: none; laws of the invariant.
-/
namespace Go.Gx
open Go

theorem dep_cells {S L : Nat → Prop} {w : World} {ρ : Nat → Value} {v : AV} {x : Value} (h : RV S L w ρ v x) : ∀ b, b ∈ dep w ρ v x → ∃ cs e fz, w.heap[b]? = some (.cells cs e fz) := by
  intro b hb
  cases v with
  | af s f =>
    obtain ⟨k, e, cs, h1, h2, _⟩ := h
    simp [dep, h1] at hb
    subst hb
    exact ⟨_, _, _, h2⟩
  | ef s f i =>
    obtain ⟨k, e, _, _, _, cs, h1, h2, _⟩ := h
    simp [dep, h1] at hb
    subst hb
    exact ⟨_, _, _, h2⟩
  | _ => exact owned_cells h b hb
section
variable {C : Ctx} {n : Rg} {S : Nat → Prop} {A : Fr} {a a' : Act} {w w' : World}
theorem Inv.other (h : Inv C n S A a w) {row : Option Nat} (hm : Mod (fun b => row = some b) w w')
    (hrow : ∀ r, row = some r → C.w₀.heap.size ≤ r ∧ ¬ S r ∧ ∃ o : Obj, w.heap[r]? = some o ∧ o.isCells = false) (ha : a'.tmps = a.tmps) (hmk : Marks C S a'.defers w') : Inv C n S A a' w' := by
  have hr : rho a' = rho a := by funext t; simp only [rho, ha]
  have hs : ∀ b, S b ∨ C.L b → w'.heap[b]? = w.heap[b]? := by
    intro b hb
    refine hm.block b (h.lt b hb) fun e => ?_
    obtain ⟨h1, h2, _⟩ := hrow b e
    rcases hb with hb | hb
    · exact h2 hb
    · have := h.l₀ b hb; omega
  have hc : ∀ (b : Nat) (cs : Array Value) (e : TypeId) (fz : Nat × Nat), w.heap[b]? = some (Obj.cells cs e fz) → w'.heap[b]? = w.heap[b]? := by
    intro b cs e fz hb
    refine hm.block b (heap_lt hb) fun e => ?_
    obtain ⟨_, _, o, ho, hn⟩ := hrow b e
    rw [hb] at ho
    cases ho
    simp [Obj.isCells] at hn
  have how : ∀ s v, look s A = some v → owned w' v (rho a' s) = owned w v (rho a s) := by
    intro s v hl
    rw [hr]
    exact owned_keep fun b hb => by
      obtain ⟨cs, e, fz, hb⟩ := owned_cells (h.rel s v hl) b hb
      exact hc b _ _ _ hb
  refine ⟨by rw [ha]; exact h.size, fun i hi => by rw [hr]; exact h.fix i hi, hmk, h.keys, h.bxs, ?_, ?_, ?_, ?_, fun b hb => Nat.lt_of_lt_of_le (h.lt b hb) hm.size, h.s₀, h.sg, ?_, h.l₀⟩
  · intro s v hl
    rw [hr]
    exact RV.keep (fun _ hb => hb) hs (h.rel s v hl) (fun _ _ => rfl) fun b hb => by
      obtain ⟨cs, e, fz, hb⟩ := dep_cells (h.rel s v hl) b hb
      exact hc b _ _ _ hb
  · intro s v hl
    rw [how s v hl]
    exact h.nd s v hl
  · intro s v t u hs' ht hne b hb
    rw [how s v hs'] at hb
    rw [how t u ht]
    exact h.dj s v t u hs' ht hne b hb
  · intro s v hl b hb
    rw [how s v hl] at hb
    exact h.apart s v hl b hb
  · refine Mod.trans h.ext hm fun k hk e => ?_
    have := (hrow k e).1
    omega
theorem mod_putObj (w : World) (r : Nat) (o : Obj) : Mod (fun b => some r = some b) w (w.putObj r o) :=
  ⟨rfl, rfl, rfl, by simp, fun b _ hb => World.putObj_heap_other fun e => hb (by rw [e]), Nat.le_refl _⟩
/-- At a function's end the marks are taken off. -/
theorem Inv.leave {P : Program} {F : Fence} {m : Nat} {fn : Func} {R : Ending → World → Prop} (K : World → Prop) (hK : ∀ w, K w → LeavesIn F m P fn a.tmps R [] .returning w)
    (hI : ∀ w, Inv C n S A { a with defers := [] } w → K w) : ∀ (Ds : List Nat) (w : World), Ds.Nodup → (∀ D, D ∈ Ds → w.heap[D]? = some (.deferred (some [])) ∧ C.w₀.heap.size ≤ D ∧ ¬ S D) →
      Inv C n S A { a with defers := [] } w → LeavesInM F m P fn a.tmps R (Ds.map mark) .returning w
  | [], w, _, _, h => hK w (hI w h)
  | D :: Ds, w, hn, hD, h => by
    obtain ⟨h1, h2, h3⟩ := hD D (List.mem_cons_self ..)
    rw [List.nodup_cons] at hn
    refine ⟨by simp, .inl ⟨D, _, rfl, run_takeDeferred h1, Inv.leave K hK hI Ds _ hn.2 (fun E hE => ?_) ?_⟩⟩
    · obtain ⟨g1, g2, g3⟩ := hD E (List.mem_cons_of_mem _ hE)
      exact ⟨(World.putObj_heap_other fun (e : E = D) => hn.1 (e ▸ hE)).trans g1, g2, g3⟩
    · exact h.other (mod_putObj w D _) (fun r e => by cases e; exact ⟨h2, h3, _, h1, rfl⟩) rfl Marks.nil
end
end Go.Gx

/-
  Gx40: the abstract machine once more, with answers that can be reckoned.
  Conditions: none; definitions alone.
-/
namespace Go.Gx
open Go

section
variable {ρ : Type}
def chk (p : Prop) [Decidable p] (x : Option ρ) : Option ρ := if p then x else none
def bnd {α : Type} (o : Option α) (f : α → Option ρ) : Option ρ := match o with | some a => f a | none => none
def brO (t : Bool) (p q : Option ρ) : Option ρ := match t with | true => p | false => q
def getO (c : Sq) (i : Nat) (K : AV → Option ρ) : Option ρ :=
  match c with
  | .ints k l => bnd l[i]? fun v => K (.pv (.int k v))
  | .bools l => bnd l[i]? fun v => K (.pv (.bool v))
  | .rows l => bnd l[i]? fun v => K (.sl (.ints .i64 v))
  | .rows2 l => bnd l[i]? fun v => K (.sl (.rows v))
def setO (c : Sq) (i : Nat) (v : AV) (K : Sq → Option ρ) : Option ρ :=
  match c, v with
  | .ints k l, .pv (.int k' n) => if k = k' then chk (i < l.length) (K (.ints k (l.set i n))) else none
  | .bools l, .pv (.bool n) => chk (i < l.length) (K (.bools (l.set i n)))
  | .rows l, .sl (.ints .i64 r) => chk (i < l.length) (K (.rows (l.set i r)))
  | .rows2 l, .sl (.rows r) => chk (i < l.length) (K (.rows2 (l.set i r)))
  | _, _ => none
def finO (n : Rg) (dst : Option Nat) (A : Fr) (v : AV) (K : Fr → Option ρ) : Option ρ :=
  match dst with
  | some d => if n.has d then (if v.ref.contains d then none else if v.fref.all (isBx A) then K (setd d v A) else none) else none
  | none => K A
/-- The same, where the value owns something new: there must be a slot for it. -/
def fin1O (n : Rg) (dst : Option Nat) (A : Fr) (v : AV) (K : Fr → Option ρ) : Option ρ :=
  match dst with
  | some d => if n.has d then K (setd d v A) else none
  | none => none

def abinO (op : BinOp) : Value → Value → (Value → Option ρ) → Option ρ
  | .int k a, .int k' b, K =>
    match op with
    | .shl => if b < 0 then none else K (.int k (k.wrap (a * 2 ^ (min b.toNat k.bits))))
    | .shr => if b < 0 then none else K (.int k (a.fdiv (2 ^ (min b.toNat k.bits))))
    | .add => if k = k' then K (.int k (k.wrap (a + b))) else none
    | .sub => if k = k' then K (.int k (k.wrap (a - b))) else none
    | .mul => if k = k' then K (.int k (k.wrap (a * b))) else none
    | .quo => if k = k' then (if b = 0 then none else K (.int k (k.wrap (a.tdiv b)))) else none
    | .rem => if k = k' then (if b = 0 then none else K (.int k (a.tmod b))) else none
    | .and => if k = k' then K (.int k (k.wrap (BitVec.ofInt k.bits a &&& BitVec.ofInt k.bits b).toNat)) else none
    | .or => if k = k' then K (.int k (k.wrap (BitVec.ofInt k.bits a ||| BitVec.ofInt k.bits b).toNat)) else none
    | .xor => if k = k' then K (.int k (k.wrap (BitVec.ofInt k.bits a ^^^ BitVec.ofInt k.bits b).toNat)) else none
    | .andNot => if k = k' then K (.int k (k.wrap (BitVec.ofInt k.bits a &&& ~~~ BitVec.ofInt k.bits b).toNat)) else none
    | .eql => if k = k' then K (.bool (a == b)) else none
    | .neq => if k = k' then K (.bool (a != b)) else none
    | .lss => if k = k' then K (.bool (a < b)) else none
    | .leq => if k = k' then K (.bool (a ≤ b)) else none
    | .gtr => if k = k' then K (.bool (a > b)) else none
    | .geq => if k = k' then K (.bool (a ≥ b)) else none
  | _, _, _ => none
def aunO (op : UnOp) : Value → (Value → Option ρ) → Option ρ
  | .int k n, K => match op with
    | .neg => K (.int k (k.wrap (0 - n)))
    | _ => none
  | .bool b, K => match op with
    | .not => K (.bool !b)
    | _ => none
  | _, _ => none


/-- What a call answers: how its parameters are handed; what it gives. -/
abbrev OrcO (ρ : Type) := List (FuncId × (List Mode × (List AV → (AV → List AV → Option ρ) → Option ρ)))
variable (E : Env) (orc : OrcO ρ)
def amoveO (asg : Bool) (A : Fr) (dst : Option Nat) (ty : TypeId) (x : Operand) (K : Fr → Option ρ) : Option ρ :=
  match x with
  | .const v => match v, look ty E.te with
    | .slice none 0 0, some (.slice e c) => finO E.n dst A (.nl e c) K
    | v, _ => if scal v then finO E.n dst A (.pv v) K else none
  | .func f => finO E.n dst A (.fn f []) K
  | .global _ => none
  | .tmp t => match look t A with
    | none => none
    | some v => match v with
      | .ow e c => if asg then finO E.n dst (dropR t A) (.ow e c) K else finO E.n dst A (.al t) K
      | .bx l => if asg then finO E.n dst (dropR t A) (.bx l) K else finO E.n dst A (.pt t 0) K
      | .ba c => if asg then finO E.n dst (dropR t A) (.ba c) K else finO E.n dst A (.pt t 0) K
      | .ao _ => none
      | v => finO E.n dst A v K

def aboxO (A : Fr) (dst : Option Nat) (x : Operand) (K : Fr → Option ρ) : Option ρ :=
  match opd A x with
  | some (.pv v) => fin1O E.n dst A (.bx [.pv v]) K
  | some (.sl c) => fin1O E.n dst A (.bx [.sl c]) K
  | some (.ls c) => fin1O E.n dst A (.bx [.ls c]) K
  | some (.nl e c) => fin1O E.n dst A (.bx [.nl e c]) K
  | some (.ag l) => fin1O E.n dst A (.bx l) K
  | some (.aa c) => fin1O E.n dst A (.ba c) K
  | some (.ow e c) => match otmp x with | some t => fin1O E.n dst (dropR t A) (.bx [.ow e c]) K | none => none
  | some (.al s) => match look s A with | some (.ow e c) => fin1O E.n dst (dropR s A) (.bx [.ow e c]) K | _ => none
  | _ => none

def abuildO (A : Fr) (dst : Option Nat) (T : TypeId) (parts : List (Nat × Operand)) (K : Fr → Option ρ) : Option ρ :=
  match frzV A (parts.map (·.2)) with
  | none => none
  | some (A, vs) =>
    match look T E.te with
    | some (.strct fs _ z) => match place fs z ((parts.map (·.1)).zip vs) with | some l => finO E.n dst A (.ag l) K | none => none
    | some (.flat fs _ z) => match placeF (fieldAt1 fs) z ((parts.map (·.1)).zip vs) with | some c => finO E.n dst A (.aa c) K | none => none
    | some (.arr _ _ es z) => match placeF (fun i => if es == 1 then some i else none) z ((parts.map (·.1)).zip vs) with | some c => finO E.n dst A (.aa c) K | none => none
    | _ => none

def abuildSO (A : Fr) (dst : Option Nat) (T : TypeId) (len : Nat) (parts : List (Nat × Operand)) (K : Fr → Option ρ) : Option ρ :=
  match look T E.te with
  | some (.slice e c) =>
    if parts.map (·.1) == List.range len && decide (len < 1000000) then
      match frzAll A (parts.map (·.2)) with
      | some (A, vs) => match Sq.mk c vs with | some c => fin1O E.n dst A (.ow e c) K | none => none
      | none => none
    else none
  | _ => none

def abuildSSO (A : Fr) (dst : Option Nat) (e : TypeId) (m len : Nat) (parts : List (Nat × Operand)) (K : Fr → Option ρ) : Option ρ :=
  if parts.map (·.1) == List.range len && decide (len * m < 1000000) && decide (0 < len) then
    match agParts A m (parts.map (·.2)) with
    | some l => fin1O E.n dst A (.ss len l) K
    | none => none
  else none
def abuildSO' (A : Fr) (dst : Option Nat) (T : TypeId) (len : Nat) (parts : List (Nat × Operand)) (K : Fr → Option ρ) : Option ρ :=
  match look T E.te with
  | some (.sls e m) => abuildSSO E A dst e m len parts K
  | _ => abuildSO E A dst T len parts K

def aloadBoxO (A : Fr) (dst : Option Nat) (T : TypeId) (s off : Nat) (K : Fr → Option ρ) : Option ρ :=
  match look s A with
  | some (.bx l) => match aggOf E T with
    | .sc => match l[off]? with
      | some (.ow _ _) => finO E.n dst A (.af s off) K
      | some (.pv v) => finO E.n dst A (.pv v) K
      | some (.sl c) => finO E.n dst A (.sl c) K
      | some (.ls c) => finO E.n dst A (.ls c) K
      | some (.nl e c) => finO E.n dst A (.nl e c) K
      | _ => none
    | .agg m =>
      if off + m ≤ l.length then
        if anyOw ((l.drop off).take m) then
          finO E.n dst (dropF s (upd s (.bx (l.take off ++ frzF ((l.drop off).take m) ++ l.drop (off + m))) A)) (.ag (frzF ((l.drop off).take m))) K
        else finO E.n dst A (.ag (frzF ((l.drop off).take m))) K
      else none
    | .unk => none
  | some (.ba c) => match aggOf E T with
    | .sc => getO c off fun v => finO E.n dst A v K
    | .agg m => chk (off = 0) <| chk (c.len = m) <| finO E.n dst A (.aa c) K
    | .unk => none
  | _ => none
def aloadO (A : Fr) (dst : Option Nat) (T : TypeId) (x : Operand) (K : Fr → Option ρ) : Option ρ :=
  match x with
  | .global g => match look g E.gl, aggOf E T with
    | some c, .agg m => chk (c.len = m) <| finO E.n dst A (.aa c) K
    | _, _ => none
  | .tmp t => match look t A with
    | some (.bx _) => aloadBoxO E A dst T t 0 K
    | some (.ba _) => aloadBoxO E A dst T t 0 K
    | some (.pt s off) => aloadBoxO E A dst T s off K
    | some (.ep s i) => match look s A, aggOf E T with | some (.ow _ c), .sc => getO c i fun v => finO E.n dst A v K | _, _ => none
    | some (.ef s f i) => match look s A, aggOf E T with
      | some (.bx l), .sc => match l[f]? with | some (.ow _ c) => getO c i fun v => finO E.n dst A v K | _ => none
      | _, _ => none
    | some (.rp v) => match aggOf E T with | .sc => finO E.n dst A v K | _ => none
    | some (.lb l off) => match aggOf E T with
      | .sc => match l[off]? with
        | some (.pv v) => finO E.n dst A (.pv v) K
        | some (.sl c) => finO E.n dst A (.sl c) K
        | some (.ls c) => finO E.n dst A (.ls c) K
        | _ => none
      | .agg m => if off + m ≤ l.length then finO E.n dst A (.ag ((l.drop off).take m)) K else none
      | .unk => none
    | some (.la c off) => match aggOf E T with
      | .sc => getO c off fun v => finO E.n dst A v K
      | .agg m => chk (off = 0) <| chk (c.len = m) <| finO E.n dst A (.aa c) K
      | .unk => none
    | _ => none
  | _ => none

def astoreBoxO (A : Fr) (T : TypeId) (s off : Nat) (y : Operand) (K : Fr → Option ρ) : Option ρ :=
  match aggOf E T with
  | .unk => none
  | .sc => match giveTo A y with
    | some (A, v) => match look s A with
      | some (.bx l) => if off < l.length then K (dropF s (upd s (.bx (l.set off v)) A)) else none
      | some (.ba c) => setO c off v fun c => K (upd s (.ba c) A)
      | _ => none
    | none => none
  | .agg m => match opd A y with
    | some (.ag v) => match look s A with
      | some (.bx l) => if off + m ≤ l.length && (v.length == m && v.all AV.known) then K (dropF s (upd s (.bx (l.take off ++ v ++ l.drop (off + m))) A)) else none
      | _ => none
    | some (.aa c) => match look s A with
      | some (.ba d) => chk (off = 0) <| chk (c.len = m) <| chk (d.len = m) <| K (upd s (.ba c) A)
      | _ => none
    | _ => none
def astoreO (A : Fr) (T : TypeId) (x y : Operand) (K : Fr → Option ρ) : Option ρ :=
  match x with
  | .tmp t => match look t A with
    | some (.bx _) => astoreBoxO E A T t 0 y K
    | some (.ba _) => astoreBoxO E A T t 0 y K
    | some (.pt s off) => astoreBoxO E A T s off y K
    | some (.ep s i) => match frzO A y, aggOf E T with
      | some (A, v), .sc => match look s A with | some (.ow e c) => setO c i v fun c => K (upd s (.ow e c) A) | _ => none
      | _, _ => none
    | some (.ef s f i) => match frzO A y, aggOf E T with
      | some (A, v), .sc => match look s A with
        | some (.bx l) => match l[f]? with | some (.ow e c) => setO c i v fun c => K (upd s (.bx (l.set f (.ow e c))) A) | _ => none
        | _ => none
      | _, _ => none
    | _ => none
  | _ => none

def anilO (A : Fr) (dst : Option Nat) (x : Operand) (K : Fr → Option ρ) : Option ρ :=
  match x with
  | .tmp t => match look t A with
    | some (.bx _) => finO E.n dst A (.pt t 0) K
    | some (.ba _) => finO E.n dst A (.pt t 0) K
    | some (.pt s off) => finO E.n dst A (.pt s off) K
    | some (.lb l off) => finO E.n dst A (.lb l off) K
    | some (.la c off) => finO E.n dst A (.la c off) K
    | _ => none
  | _ => none

def abinopO (A : Fr) (dst : Option Nat) (op : BinOp) (T : TypeId) (x y : Operand) (K : Fr → Option ρ) : Option ρ :=
  match opd A x, opd A y with
  | some (.pv (.bool a)), some (.pv (.bool b)) => match op, look T E.te with
    | .eql, some .bool => finO E.n dst A (.pv (.bool (a == b))) K
    | .neq, some .bool => finO E.n dst A (.pv (.bool (!(a == b)))) K
    | _, _ => none
  | some (.pv a), some (.pv b) => abinO op a b fun v => finO E.n dst A (.pv v) K
  | some (.aa (.ints k l)), some (.aa (.ints k' l')) => match look T E.te with
    | some (.arr m e 1 _) => match look e E.te with
      | some (.int _) => if k = k' then chk (l.length = m) <| chk (l'.length = m) <| (match op with
        | .eql => finO E.n dst A (.pv (.bool (l == l'))) K
        | .neq => finO E.n dst A (.pv (.bool (!(l == l')))) K
        | _ => none) else none
      | _ => none
    | _ => none
  | _, _ => none

def anumO (A : Fr) (o : Option Operand) (d : Int) (K : Int → Option ρ) : Option ρ :=
  match o with
  | none => K d
  | some o => match opd A o with | some (.pv (.int _ i)) => K i | _ => none
/-- A part of known memory. -/
def aviewO (A₀ A : Fr) (dst : Option Nat) (lo hi : Option Operand) (c : Sq) (mk : Sq → AV) (K : Fr → Option ρ) : Option ρ :=
  anumO A₀ lo 0 fun l => anumO A₀ hi c.len fun h => chk (0 ≤ l) <| chk (l ≤ h) <| chk (h ≤ c.len) <| finO E.n dst A (mk (cutOf lo c l.toNat h.toNat)) K
def asliceO (A : Fr) (dst : Option Nat) (T : TypeId) (x : Operand) (lo hi : Option Operand) (K : Fr → Option ρ) : Option ρ :=
  match opd A x with
  | none => none
  | some v => match look T E.te with
    | some (.slice _ _) =>
      if (dst.map E.cut.contains).getD false then
        match lo with
        | some _ => none
        | none => match v, otmp x with
          | .ow e c, some t => anumO A hi c.len fun h => chk (0 ≤ h) <| chk (h ≤ c.len) <| fin1O E.n dst (dropR t A) (.ow e (c.top h.toNat)) K
          | .al s, _ => match look s A with
            | some (.ow e c) => anumO A hi c.len fun h => chk (0 ≤ h) <| chk (h ≤ c.len) <| fin1O E.n dst (dropR s A) (.ow e (c.top h.toNat)) K
            | _ => none
          | .af s f, _ => match look s A with
            | some (.bx l) => match l[f]? with
              | some (.ow e c) => anumO A hi c.len fun h => chk (0 ≤ h) <| chk (h ≤ c.len) <| fin1O E.n dst (dropF s (upd s (.bx (l.set f .jk)) A)) (.ow e (c.top h.toNat)) K
              | _ => none
            | _ => none
          | _, _ => none
      else
        match v with
        | .ls c => aviewO E A A dst lo hi c .ls K
        | v => match frz A (otmp x) v with
          | some (A', .sl c) => aviewO E A A' dst lo hi c .sl K
          | some (A', .nl _ c) => aviewO E A A' dst lo hi c .sl K
          | _ => none
    | some (.arr m _ 1 _) => match ptOf (otmp x) v with
      | some (s, off) => match look s A with
        | some (.ba c) => chk (off = 0) <| chk (c.len = m) <| aviewO E A (setd s (.la c 0) A) dst lo hi c .sl K
        | _ => none
      | none => none
    | _ => none

def afieldAddrO (A : Fr) (dst : Option Nat) (T : TypeId) (x : Operand) (f : Nat) (K : Fr → Option ρ) : Option ρ :=
  let off? := match look T E.te with
    | some (.strct fs _ _) => (fs[f]?).map (·.1)
    | some (.flat fs _ _) => (fs[f]?).map (·.1)
    | _ => none
  match x, off? with
  | .tmp t, some o => match look t A with
    | some (.bx _) => finO E.n dst A (.pt t o) K
    | some (.ba _) => finO E.n dst A (.pt t o) K
    | some (.pt s off) => finO E.n dst A (.pt s (off + o)) K
    | some (.lb l off) => finO E.n dst A (.lb l (off + o)) K
    | some (.la c off) => finO E.n dst A (.la c (off + o)) K
    | _ => none
  | _, _ => none

def afieldO (A : Fr) (dst : Option Nat) (T : TypeId) (x : Operand) (f : Nat) (K : Fr → Option ρ) : Option ρ :=
  match opd A x, look T E.te with
  | some (.ag l), some (.strct fs _ _) => match fs[f]? with
    | some (o, ft, sz) => match aggOf E ft with
      | .unk => none
      | .sc => match l[o]? with
        | some (.pv v) => finO E.n dst A (.pv v) K
        | some (.sl c) => finO E.n dst A (.sl c) K
        | some (.ls c) => finO E.n dst A (.ls c) K
        | some (.nl e c) => finO E.n dst A (.nl e c) K
        | _ => none
      | .agg m => if o + m ≤ l.length && m == sz then finO E.n dst A (.ag ((l.drop o).take m)) K else none
    | none => none
  | _, _ => none

def aindexAddrO (A : Fr) (dst : Option Nat) (T : TypeId) (x i : Operand) (K : Fr → Option ρ) : Option ρ :=
  match opd A i, look T E.te with
  | some (.pv (.int _ i)), some (.slice _ _) => match opd A x with
    | some v => match srcOf A (otmp x) v with
      | some (.slot s, c) => chk (0 ≤ i) <| chk (i < c.len) <| finO E.n dst A (.ep s i.toNat) K
      | some (.field s f, c) => chk (0 ≤ i) <| chk (i < c.len) <| finO E.n dst A (.ef s f i.toNat) K
      | some (.ro _, c) => chk (0 ≤ i) <| chk (i < c.len) <| getO c i.toNat fun v => finO E.n dst A (.rp v) K
      | none => none
    | none => none
  | some (.pv (.int _ i)), some (.arr m _ es _) => match opd A x with
    | some (.la c off) => chk (0 ≤ i) <| chk (i < m) <| finO E.n dst A (.la c (off + i.toNat * es)) K
    | some (.lb c off) => chk (0 ≤ i) <| chk (i < m) <| finO E.n dst A (.lb c (off + i.toNat * es)) K
    | some v => match ptOf (otmp x) v with
      | some (s, off) => chk (0 ≤ i) <| chk (i < m) <| finO E.n dst A (.pt s (off + i.toNat * es)) K
      | none => none
    | none => none
  | _, _ => none

/-- One of so many, by its number. -/
def selO (i : Int) (f : Nat → Option ρ) : Nat → Nat → Option ρ
  | _, 0 => none
  | j, k + 1 => brO (decide (i = j)) (f j) (selO i f (j + 1) k)
def aindexAddrO' (A : Fr) (dst : Option Nat) (T : TypeId) (x i : Operand) (K : Fr → Option ρ) : Option ρ :=
  match look T E.te with
  | some (.sls _ m) => match opd A i, opd A x with
    | some (.pv (.int _ i)), some (.ss n l) => selO i (fun j => finO E.n dst A (.lb l (j * m)) K) 0 n
    | _, _ => none
  | _ => aindexAddrO E A dst T x i K

def aindexO (A : Fr) (dst : Option Nat) (T : TypeId) (x i : Operand) (K : Fr → Option ρ) : Option ρ :=
  match opd A i, look T E.te, opd A x with
  | some (.pv (.int _ i)), some (.arr m e es _), some (.aa c) => chk (c.len = m * es) <| chk (0 ≤ i) <| chk (i < m) <|
    match aggOf E e with
    | .unk => none
    | .sc => chk (es = 1) <| getO c i.toNat fun v => finO E.n dst A v K
    | .agg k => chk (k = es) <| finO E.n dst A (.aa (c.cut (i.toNat * es) (i.toNat * es + es))) K
  | _, _, _ => none

def aappendO (A : Fr) (dst : Option Nat) (T : TypeId) (x y : Operand) (K : Fr → Option ρ) : Option ρ :=
  match look T E.te, opd A x, opd A y with
  | some (.slice e _), some vx, some vy => match srcOf A (otmp y) vy with
    | some (_, cy) => match vx, otmp x with
      | .nl _ c, _ => match c.cat cy with | some c => chk (c.len < 2 ^ 40) <| fin1O E.n dst A (.ow e c) K | none => none
      | .ow e' c, some t => match c.cat cy with | some c => chk (e' = e) <| chk (c.len < 2 ^ 40) <| fin1O E.n dst (dropR t A) (.ow e c) K | none => none
      | .al s, _ => match look s A with
        | some (.ow e' c) => match c.cat cy with | some c => chk (e' = e) <| chk (c.len < 2 ^ 40) <| fin1O E.n dst (dropR s A) (.ow e c) K | none => none
        | _ => none
      | .af s f, _ => match look s A with
        | some (.bx l) => match l[f]? with
          | some (.ow e' c) => match c.cat cy with
            | some c => chk (e' = e) <| chk (c.len < 2 ^ 40) <| fin1O E.n dst (dropF s (upd s (.bx (l.set f .jk)) A)) (.ow e c) K
            | none => none
          | _ => none
        | _ => none
      | _, _ => none
    | none => none
  | _, _, _ => none

def alenO (A : Fr) (dst : Option Nat) (T : TypeId) (x : Operand) (K : Fr → Option ρ) : Option ρ :=
  match look T E.te, opd A x with
  | some (.slice _ _), some v => match srcOf A (otmp x) v with
    | some (_, c) => finO E.n dst A (.pv (.int .i64 c.len)) K
    | none => none
  | _, _ => none

def abuildAO (A : Fr) (dst : Option Nat) (T : TypeId) (parts : List (Nat × Operand)) (K : Fr → Option ρ) : Option ρ :=
  match partsA A (parts.map (·.2)), look T E.te with
  | some vs, some (.strct fs _ z) => match place fs z ((parts.map (·.1)).zip vs) with | some l => finO E.n dst A (.ao l) K | none => none
  | _, _ => none
def aboxO' (A : Fr) (dst : Option Nat) (x : Operand) (K : Fr → Option ρ) : Option ρ :=
  match opd A x with
  | some (.ao l) => match dst with
    | some d => if (E.n.has d && l.all (laysOK A)) = true then match backL d (alsOf 0 l) (setd d (.bx (l.map unal)) A) with | some A => K A | none => none else none
    | none => none
  | _ => aboxO E A dst x K
def astoreAO (A : Fr) (T : TypeId) (s : Nat) (v : List AV) (K : Fr → Option ρ) : Option ρ :=
  match aggOf E T, look s A with
  | .agg m, some (.bx l) => if (l.length == m && (v.length == m && v.all (laysOK A))) = true then match backL s (alsOf 0 v) (dropF s (upd s (.bx (v.map unal)) A)) with | some A => K A | none => none else none
  | _, _ => none
def astoreO' (A : Fr) (T : TypeId) (x y : Operand) (K : Fr → Option ρ) : Option ρ :=
  match opd A y with
  | some (.ao v) => match x with
    | .tmp t => match look t A with
      | some (.bx _) => astoreAO E A T t v K
      | some (.pt s 0) => astoreAO E A T s v K
      | _ => none
    | _ => none
  | _ => astoreO E A T x y K
def alenO' (A : Fr) (dst : Option Nat) (T : TypeId) (x : Operand) (K : Fr → Option ρ) : Option ρ :=
  match look T E.te with
  | some (.sls _ _) => match opd A x with
    | some (.ss n _) => finO E.n dst A (.pv (.int .i64 n)) K
    | _ => none
  | some (.slice _ _) => match opd A x with
    | some (.pv (.slice none 0 0)) => finO E.n dst A (.pv (.int .i64 0)) K
    | _ => alenO E A dst T x K
  | _ => alenO E A dst T x K

def acallO (A : Fr) (dst : Option Nat) (f : FuncId) (args : List Operand) (capt : Option Nat) (K : Fr → Option ρ) : Option ρ :=
  match look f orc with
  | none => none
  | some (modes, g) =>
    if modes.length == args.length then
      match frzArgs A (modes.zip args) with
      | none => none
      | some A => match argsOf A (modes.zip args), capsOf A f capt with
        | some (vs, ps, ls), some (extra, ls') =>
          if nodupB ps && (ls ++ ls').all (fun s => !ps.contains s) then
            g (vs ++ extra) fun res outs =>
              match ioBack A ps outs with
              | some A => finO E.n dst A res K
              | none => none
          else none
        | _, _ => none
    else none

def acallFO (A : Fr) (dst : Option Nat) (f : FuncId) (ms : List Mode) (args : List Operand) (t s fl : Nat) (K : Fr → Option ρ) : Option ρ :=
  match takeF E.n A t s fl with
  | some A₁ => if (dst != some t && dst != some s && s != t && notIo A₁ s (ms.zip args)) = true then acallO E orc A₁ dst f args none fun A₂ => match backF A₂ t s fl with | some A₃ => K A₃ | none => none else none
  | none => none

def extract1O (A : Fr) (dst : Option Nat) (x : Operand) (i : Nat) (K : Fr → Option ρ) : Option ρ :=
  match opd A x with
  | some (.tp l) => match l[i]? with
    | some (.pv v) => finO E.n dst A (.pv v) K
    | some (.sl c) => finO E.n dst A (.sl c) K
    | some (.nl e c) => finO E.n dst A (.nl e c) K
    | some (.ag l) => finO E.n dst A (.ag l) K
    | some (.aa c) => finO E.n dst A (.aa c) K
    | _ => none
  | _ => none

def acallOpO (A : Fr) (dst : Option Nat) (c : Call) (K : Fr → Option ρ) : Option ρ :=
  match c.callee with
  | .builtin .len => match c.args.toList, c.argTypes.toList with
    | [x], [T] => alenO' E A dst T x K
    | _, _ => none
  | .builtin .append => match c.args.toList, c.argTypes.toList with
    | [x, y], [T, T'] => if T == T' then aappendO E A dst T x y K else none
    | _, _ => none
  | .builtin .min => match c.args.toList with
    | [x, y] => match opd A x, opd A y with
      | some (.pv (.int k a)), some (.pv (.int _ b)) => finO E.n dst A (.pv (.int k (if b < a then b else a))) K
      | _, _ => none
    | _ => none
  | .value (.func f) => match (look f orc).bind fun p => (afArg A p.1 c.args.toList).map fun q => (p.1, q) with
    | some (ms, t, s, fl) => acallFO E orc A dst f ms c.args.toList t s fl K
    | none => acallO E orc A dst f c.args.toList none K
  | .value (.tmp t) => match look t A with
    | some (.fn f _) => acallO E orc A dst f c.args.toList (some t) K
    | _ => none
  | _ => none
def aopO (A : Fr) (o : Oper) (K : Fr → Option ρ) : Option ρ :=
  match o.op with
  | .move x => amoveO E false A o.dst o.type x K
  | .assign x => amoveO E true A o.dst o.type x K
  | .pick c a b => match opd A c with
    | some (.pv (.bool t)) => brO t (amoveO E false A o.dst o.type a K) (amoveO E false A o.dst o.type b K)
    | _ => none
  | .alloc T => match look T E.te with
    | some (.int k) => fin1O E.n o.dst A (.bx [.pv (.int k 0)]) K
    | some .bool => fin1O E.n o.dst A (.bx [.pv (.bool false)]) K
    | some (.slice e c) => fin1O E.n o.dst A (.bx [.nl e c]) K
    | some (.arr _ _ _ z) => fin1O E.n o.dst A (.ba z) K
    | some (.flat _ _ z) => fin1O E.n o.dst A (.ba z) K
    | some (.strct _ _ z) => fin1O E.n o.dst A (.bx z) K
    | _ => none
  | .box _ x => aboxO' E A o.dst x K
  | .build T parts => if (o.dst.map E.cut.contains).getD false then abuildAO E A o.dst T parts.toList K else abuildO E A o.dst T parts.toList K
  | .buildSlice T len parts => abuildSO' E A o.dst T len parts.toList K
  | .load T x => aloadO E A o.dst T x K
  | .store T x y => match o.dst with | none => astoreO' E A T x y K | some _ => none
  | .nilCheck x => anilO E A o.dst x K
  | .binOp op T x y _ => abinopO E A o.dst op T x y K
  | .unOp op _ x => match opd A x with
    | some (.pv v) => aunO op v fun v => finO E.n o.dst A (.pv v) K
    | _ => none
  | .convert src dst x => match look src E.te, look dst E.te, opd A x with
    | some (.int _), some (.int k), some (.pv (.int _ v)) => finO E.n o.dst A (.pv (.int k (k.wrap v))) K
    | _, _, _ => none
  | .makeFunc (.func f) first captured =>
    if first.isEmpty then match acaps A captured.toList with | some caps => finO E.n o.dst A (.fn f caps) K | none => none else none
  | .makeSlice T l c => match look T E.te, opd A l, opd A c with
    | some (.slice e z), some (.pv (.int .i64 l)), some (.pv (.int .i64 c)) => match z.zeros l.toNat with
      | some z => chk (l = c) <| chk (0 ≤ l) <| chk (l < 2 ^ 40) <| fin1O E.n o.dst A (.ow e z) K
      | none => none
    | _, _, _ => none
  | .slice T x lo hi none => asliceO E A o.dst T x lo hi K
  | .fieldAddr T x f => afieldAddrO E A o.dst T x f K
  | .field T x f => afieldO E A o.dst T x f K
  | .indexAddr T x i => aindexAddrO' E A o.dst T x i K
  | .index T x i => aindexO E A o.dst T x i K
  | .extract x i => extract1O E A o.dst x i K
  | .call c => acallOpO E orc A o.dst c K
  | _ => none

def askipO (A : Fr) (o : Oper) (K : Fr → Option ρ) : Option ρ := finO E.n o.dst A (.tp []) K
def guardedO (A : Fr) (ops : Array Oper) (o : Oper) (K : Fr → Option ρ) : Option ρ :=
  match o.guard with
  | none => aopO E orc A o K
  | some (j, want) => match (ops[j]?).bind (·.dst) with
    | some d => match look d A with
      | some (.pv (.bool g)) => brO g
          (brO want (aopO E orc (upd d (.pv (.bool true)) A) o K) (askipO E (upd d (.pv (.bool true)) A) o K))
          (brO want (askipO E (upd d (.pv (.bool false)) A) o K) (aopO E orc (upd d (.pv (.bool false)) A) o K))
      | some (.tp []) => askipO E A o K
      | _ => none
    | none => none
def aopsO (ops : Array Oper) : List Oper → Fr → (Fr → Option ρ) → Option ρ
  | [], A, K => K A
  | o :: r, A, K => guardedO E orc A ops o fun A => aopsO ops r A K


/-- The operations of these numbers. -/
def aopsIO (ops : Array Oper) : List Nat → Fr → (Fr → Option ρ) → Option ρ
  | [], A, K => K A
  | i :: r, A, K => match ops[i]? with
    | none => aopsIO ops r A K
    | some o => guardedO E orc A ops o fun A => aopsIO ops r A K
/-- Keep these slots alone. -/
def cutTo (keep : List Nat) (A : Fr) : Fr := A.filter fun e => keep.contains e.1 && e.2.ref.all keep.contains
def thenO (b : Fr → Option ρ) (K : Exit → Fr → Option ρ) : Exit → Fr → Option ρ
  | .normal, A => b A
  | e, A => K e A
def inBO (id : Nat) (K : Exit → Fr → Option ρ) : Exit → Fr → Option ρ
  | .exit j, A => if j == id then K .normal A else K (.exit j) A
  | e, A => K e A
/-- What a piece of code answers. -/
abbrev CodO (ρ : Type) := Fr → (Exit → Fr → Option ρ) → Option ρ
/-- The slots to keep behind a region; loops; pieces of code at which ways meet. -/
structure Tab (ρ : Type) where
  live : List (Nat × List Nat)
  xl : List (Nat × List Nat)
  rl : List Nat
  fz : List (Nat × List Nat)
  lp : List (Nat × CodO ρ)
  jp : List (Nat × (List Nat × CodO ρ))
  rg : List (Nat × (Fr → (Fr → Option ρ) → Option ρ)) := []
  rf : Option (CodO ρ) := none
/-- Owned slices that are frozen. -/
def frzL : List Nat → Fr → Fr
  | [], A => A
  | t :: r, A => match look t A with
    | some v => match frz A (some t) v with
      | some (A', _) => frzL r A'
      | none => frzL r A
    | none => frzL r A
variable (T : Tab ρ)
def frzAt (b : Code) (A : Fr) : Fr := match (firstReg b).bind fun i => look i T.fz with | some l => frzL l A | none => A
def cutAt (id : Nat) (A : Fr) : Fr := match look id T.live with | some l => cutTo l A | none => A
def AEO : Code → Fr → (Exit → Fr → Option ρ) → Option ρ
  | .skip, A, K => K .normal A
  | .region id ops draw, A, K => match look id T.rg with
    | some G => G A (K .normal)
    | none => brO (!draw || pairsOK ops) (aopsO E orc ops ops.toList A fun A => K .normal (cutAt T id A)) none
  | .seq a b, A, K => AEO a A (thenO (fun A => match (firstReg b).bind fun i => look i T.jp with
    | some (l, J) => J (cutTo l A) K
    | none => AEO b A K) K)
  | .cond c x y, A, K => match opd A c with
    | some (.pv (.bool t)) => brO t (AEO x A K) (AEO y A K)
    | _ => none
  | .block id b, A, K => AEO b A (inBO id K)
  | .loop b, A, K => match (firstReg b).bind fun i => look i T.lp with
    | some J => J (restr (keepOf E b) (frzAt T b A)) K
    | none => none
  | .exit id, A, K => K (.exit id) (match look id T.xl with | some l => cutTo l A | none => A)
  | .ret, A, K => K .ret (cutTo T.rl A)
  | .rangeFunc .., A, K => match T.rf with
    | some J => J A K
    | none => none
  | _, _, _ => none

/-- A nil slice, as a slice of no element: frozen in a part, owned alone. -/
def fixP : AV → AV
  | .nl _ c => .sl c
  | v => v
def fixT : AV → AV
  | .nl _ c => .sl c
  | .ag l => .ag (l.map fixP)
  | v => v
def fixR : AV → AV
  | .nl e c => .ow e c
  | .ag l => .ag (l.map fixP)
  | .tp l => .tp (l.map fixT)
  | v => v
/-- What a function hands back. -/
def ares1O (A : Fr) (r : ResultVar) (K : Fr → AV → List Nat → Option ρ) : Option ρ :=
  match r with
  | .tmp t => match look t A with
    | some (.ow e c) => K A (.ow e c) [t]
    | some (.al s) => match look s A with | some (.ow e c) => K A (.ow e c) [s] | _ => none
    | some v => if cleanN v then K A v [] else none
    | none => none
  | .cell t T => match look t A with
    | some (.bx l) => match acell E A t l T with | some (A', v, src) => K A' v src | none => none
    | some (.ba c) => match aggOf E T with | .agg m => chk ((c.len == m) = true) (K A (.aa c) []) | _ => none
    | some (.pt s 0) => match look s A with
      | some (.bx l) => match acell E A s l T with | some (A', v, src) => K A' v src | none => none
      | some (.ba c) => match aggOf E T with | .agg m => chk ((c.len == m) = true) (K A (.aa c) []) | _ => none
      | _ => none
    | _ => none
def aresSO (A : Fr) (r : ResultVar) (K : Fr → AV → Option ρ) : Option ρ :=
  ares1O E A r fun A' v src => match src with
    | [] => if cleanT v then K A' v else none
    | [s] => match v with
      | .ow _ c => match look s A' with
        | some (.ow _ _) => K (setd s (.sl c) A') (.sl c)
        | some (.bx l) => match l[(0 : Nat)]? with
          | some (.ow _ _) => K (dropF s (upd s (.bx (l.set 0 (.sl c))) A')) (.sl c)
          | _ => none
        | _ => none
      | _ => none
    | _ => none
def aresLO : List ResultVar → Fr → (Fr → List AV → Option ρ) → Option ρ
  | [], A, K => K A []
  | r :: rs, A, K => aresSO E A r fun A' v => aresLO rs A' fun A'' vs => K A'' (v :: vs)
def aretO (A : Fr) (rs : List ResultVar) (ios : List Nat) (K : AV → List AV → Option ρ) : Option ρ :=
  match rs with
  | [r] => ares1O E A r fun A' v src => if src.all (fun s => !ios.contains s) then (match outsOf A' ios with | some outs => K (fixR v) (outs.map norm) | none => none) else none
  | rs => aresLO E rs A fun A' vs => match outsOf A' ios with | some outs => K (fixR (.tp vs)) (outs.map norm) | none => none
def bodyO (rs : List ResultVar) (vs : List AV) (K : AV → List AV → Option ρ) : Exit → Fr → Option ρ
  | .normal, A | .ret, A => aretO E A rs (iosOf vs 0) K
  | _, _ => none
/-- A loop's rounds: with so much fuel. -/
def iterM {σ : Type} (step : σ → (σ → Option ρ) → Option ρ) : Nat → σ → Option ρ
  | 0, _ => none
  | n + 1, s => step s (iterM step n)
end
end Go.Gx

/-
  Gx41: what the reckoning machine answers, the machine of statements grants.
  Conditions: none; operation by operation.
-/
namespace Go.Gx
open Go

section
variable {ρ : Type} {r : ρ} {E : Env} {orc : OrcO ρ} {A : Fr} {dst : Option Nat} {Ko : Fr → Option ρ} {K : Fr → Prop}
theorem chk_some {p : Prop} [Decidable p] {x : Option ρ} (h : chk p x = some r) : p ∧ x = some r := by
  unfold chk at h
  split at h
  · exact ⟨by assumption, h⟩
  · cases h
theorem bnd_some {α : Type} {o : Option α} {f : α → Option ρ} (h : bnd o f = some r) : ∃ a, o = some a ∧ f a = some r := by
  unfold bnd at h
  split at h
  · exact ⟨_, rfl, h⟩
  · cases h
theorem brO_some {t : Bool} {p q : Option ρ} {P Q : Prop} (h : brO t p q = some r) (hp : p = some r → P) (hq : q = some r → Q) : br t P Q := by
  cases t
  · exact hq h
  · exact hp h
theorem getO_ok {c : Sq} {i : Nat} {Ko : AV → Option ρ} {K : AV → Prop} (h : getO c i Ko = some r) (hk : ∀ v, Ko v = some r → K v) : c.get i K := by
  cases c <;> (obtain ⟨v, h1, h2⟩ := bnd_some h; exact ⟨v, h1, hk _ h2⟩)
theorem setO_ok {c : Sq} {i : Nat} {v : AV} {Ko : Sq → Option ρ} {K : Sq → Prop} (h : setO c i v Ko = some r) (hk : ∀ v, Ko v = some r → K v) : c.set i v K := by
  unfold setO at h
  split at h
  · split at h
    · rename_i hkk
      subst hkk
      obtain ⟨h1, h2⟩ := chk_some h
      simp only [Sq.set, if_true]
      exact ⟨h1, hk _ h2⟩
    · cases h
  · obtain ⟨h1, h2⟩ := chk_some h
    exact ⟨h1, hk _ h2⟩
  · obtain ⟨h1, h2⟩ := chk_some h
    exact ⟨h1, hk _ h2⟩
  · obtain ⟨h1, h2⟩ := chk_some h
    exact ⟨h1, hk _ h2⟩
  · cases h
theorem finO_ok {n : Rg} {v : AV} (h : finO n dst A v Ko = some r) (hk : ∀ A, Ko A = some r → K A) : fin n dst A v K := by
  unfold finO at h
  unfold fin
  split at h
  · split at h
    · split at h
      · cases h
      · split at h
        · simp only [*, if_true, Bool.false_eq_true, if_false] <;> exact hk _ h
        · cases h
    · cases h
  · exact hk _ h
theorem fin1O_ok {n : Rg} {v : AV} (h : fin1O n dst A v Ko = some r) (hk : ∀ A, Ko A = some r → K A) : fin1 n dst A v K := by
  unfold fin1O at h
  unfold fin1
  split at h
  · split at h
    · simp only [*, if_true] <;> exact hk _ h
    · cases h
  · cases h
theorem abinO_ok {op : BinOp} {x y : Value} {Ko : Value → Option ρ} {K : Value → Prop} (h : abinO op x y Ko = some r) (hk : ∀ A, Ko A = some r → K A) : abin op x y K := by
  unfold abinO at h
  split at h
  · unfold abin
    split at h <;> (repeat' split at h) <;> (first | (cases h; done) | (subst_vars; simp only [*, if_true, if_false] <;> exact hk _ h))
  · cases h
theorem aunO_ok {op : UnOp} {x : Value} {Ko : Value → Option ρ} {K : Value → Prop} (h : aunO op x Ko = some r) (hk : ∀ A, Ko A = some r → K A) : aun op x K := by
  unfold aunO at h
  repeat' split at h
  all_goals first | (cases h; done) | (unfold aun; exact hk _ h)
theorem amoveO_ok {asg : Bool} {ty : TypeId} {x : Operand} (h : amoveO E asg A dst ty x Ko = some r) (hk : ∀ A, Ko A = some r → K A) : amove E asg A dst ty x K := by
  unfold amoveO at h
  unfold amove
  repeat' split at h
  all_goals first | (cases h; done) | (simp only [*, if_true, Bool.false_eq_true, if_false] <;> exact finO_ok h hk)
theorem aboxO_ok {x : Operand} (h : aboxO E A dst x Ko = some r) (hk : ∀ A, Ko A = some r → K A) : abox E A dst x K := by
  unfold aboxO at h
  unfold abox
  repeat' split at h
  all_goals first | (cases h; done) | (simp only [*, if_true, Bool.false_eq_true, if_false] <;> exact fin1O_ok h hk)
theorem abuildO_ok {T : TypeId} {ps : List (Nat × Operand)} (h : abuildO E A dst T ps Ko = some r) (hk : ∀ A, Ko A = some r → K A) : abuild E A dst T ps K := by
  unfold abuildO at h
  unfold abuild
  repeat' split at h
  all_goals first | (cases h; done) | (simp only [*, if_true, Bool.false_eq_true, if_false] <;> exact finO_ok h hk)
theorem abuildSO_ok {T : TypeId} {n : Nat} {ps : List (Nat × Operand)} (h : abuildSO E A dst T n ps Ko = some r) (hk : ∀ A, Ko A = some r → K A) : abuildS E A dst T n ps K := by
  unfold abuildSO at h
  unfold abuildS
  repeat' split at h
  all_goals first | (cases h; done) | (simp only [*, if_true, Bool.false_eq_true, if_false] <;> exact fin1O_ok h hk)
theorem aloadBoxO_ok {T : TypeId} {s off : Nat} (h : aloadBoxO E A dst T s off Ko = some r) (hk : ∀ A, Ko A = some r → K A) : aloadBox E A dst T s off K := by
  unfold aloadBoxO at h
  unfold aloadBox
  repeat' split at h
  all_goals first | (cases h; done) | (simp only [*, if_true, Bool.false_eq_true, if_false] <;> (first | exact finO_ok h hk | exact getO_ok h fun v h => finO_ok h hk | (obtain ⟨h1, h⟩ := chk_some h; obtain ⟨h2, h⟩ := chk_some h; exact ⟨h1, h2, finO_ok h hk⟩)))
theorem aloadO_ok {T : TypeId} {x : Operand} (h : aloadO E A dst T x Ko = some r) (hk : ∀ A, Ko A = some r → K A) : aload E A dst T x K := by
  unfold aloadO at h
  unfold aload
  repeat' split at h
  all_goals first | (cases h; done) | (simp only [*, if_true, Bool.false_eq_true, if_false] <;> (first | exact finO_ok h hk | exact aloadBoxO_ok h hk | exact getO_ok h fun v h => finO_ok h hk | (obtain ⟨h1, h⟩ := chk_some h; exact ⟨h1, finO_ok h hk⟩) | (obtain ⟨h1, h⟩ := chk_some h; obtain ⟨h2, h⟩ := chk_some h; exact ⟨h1, h2, finO_ok h hk⟩)))
theorem astoreBoxO_ok {T : TypeId} {s off : Nat} {y : Operand} (h : astoreBoxO E A T s off y Ko = some r) (hk : ∀ A, Ko A = some r → K A) : astoreBox E A T s off y K := by
  unfold astoreBoxO at h
  unfold astoreBox
  repeat' split at h
  all_goals first | (cases h; done) | (simp only [*, if_true, Bool.false_eq_true, if_false] <;> (first | exact hk _ h | exact setO_ok h fun v h => hk _ h | (obtain ⟨h1, h⟩ := chk_some h; obtain ⟨h2, h⟩ := chk_some h; obtain ⟨h3, h⟩ := chk_some h; exact ⟨h1, h2, h3, hk _ h⟩)))
theorem astoreO_ok {T : TypeId} {x y : Operand} (h : astoreO E A T x y Ko = some r) (hk : ∀ A, Ko A = some r → K A) : astore E A T x y K := by
  unfold astoreO at h
  unfold astore
  repeat' split at h
  all_goals first | (cases h; done) | (simp only [*, if_true, Bool.false_eq_true, if_false] <;> (first | exact astoreBoxO_ok h hk | exact setO_ok h fun v h => hk _ h))
theorem anilO_ok {x : Operand} (h : anilO E A dst x Ko = some r) (hk : ∀ A, Ko A = some r → K A) : anil E A dst x K := by
  unfold anilO at h
  unfold anil
  repeat' split at h
  all_goals first | (cases h; done) | (simp only [*, if_true, Bool.false_eq_true, if_false] <;> exact finO_ok h hk)
theorem abinopO_ok {op : BinOp} {T : TypeId} {x y : Operand} (h : abinopO E A dst op T x y Ko = some r) (hk : ∀ A, Ko A = some r → K A) : abinop E A dst op T x y K := by
  unfold abinopO at h
  unfold abinop
  split at h
  · simp only [*]
    split at h
    · simp only [*]; exact finO_ok h hk
    · simp only [*]; exact finO_ok h hk
    · cases h
  · simp only [*]
    exact abinO_ok h fun v h => finO_ok h hk
  · simp only [*]
    split at h
    · simp only [*]
      split at h
      · simp only [*]
        split at h
        · rename_i hk'
          rw [if_pos hk']
          obtain ⟨h1, h⟩ := chk_some h
          obtain ⟨h2, h⟩ := chk_some h
          refine ⟨h1, h2, ?_⟩
          split at h
          · exact finO_ok h hk
          · exact finO_ok h hk
          · cases h
        · cases h
      · cases h
    · cases h
  · cases h
theorem anumO_ok {o : Option Operand} {d : Int} {Ko : Int → Option ρ} {K : Int → Prop} (h : anumO A o d Ko = some r) (hk : ∀ A, Ko A = some r → K A) : anum A o d K := by
  unfold anumO at h
  unfold anum
  repeat' split at h
  all_goals first | (cases h; done) | (simp only [*] <;> exact hk _ h)
theorem aviewO_ok {A₀ : Fr} {lo hi : Option Operand} {c : Sq} {mk : Sq → AV} (h : aviewO E A₀ A dst lo hi c mk Ko = some r) (hk : ∀ A, Ko A = some r → K A) : aview E A₀ A dst lo hi c mk K := by
  unfold aviewO at h
  refine anumO_ok h fun l h => anumO_ok h fun hi h => ?_
  obtain ⟨h1, h⟩ := chk_some h
  obtain ⟨h2, h⟩ := chk_some h
  obtain ⟨h3, h⟩ := chk_some h
  exact ⟨h1, h2, h3, finO_ok h hk⟩
theorem topO_ok {n : Rg} {A' : Fr} {v : Int → AV} {c : Sq} {hi : Option Operand} (h : (anumO A hi c.len fun h => chk (0 ≤ h) <| chk (h ≤ c.len) <| fin1O n dst A' (v h) Ko) = some r) (hk : ∀ A, Ko A = some r → K A) :
    anum A hi c.len fun h => 0 ≤ h ∧ h ≤ c.len ∧ fin1 n dst A' (v h) K := by
  refine anumO_ok h fun hi h => ?_
  obtain ⟨h1, h⟩ := chk_some h
  obtain ⟨h2, h⟩ := chk_some h
  exact ⟨h1, h2, fin1O_ok h hk⟩
theorem asliceO_ok {T : TypeId} {x : Operand} {lo hi : Option Operand} (h : asliceO E A dst T x lo hi Ko = some r) (hk : ∀ A, Ko A = some r → K A) : aslice E A dst T x lo hi K := by
  unfold asliceO at h
  unfold aslice
  repeat' split at h
  all_goals first | (cases h; done) | (simp only [*, if_true, Bool.false_eq_true, if_false] <;> (first | exact topO_ok h hk | exact aviewO_ok h hk | (obtain ⟨h1, h⟩ := chk_some h; obtain ⟨h2, h⟩ := chk_some h; exact ⟨h1, h2, aviewO_ok h hk⟩)))
theorem afieldAddrO_ok {T : TypeId} {x : Operand} {f : Nat} (h : afieldAddrO E A dst T x f Ko = some r) (hk : ∀ A, Ko A = some r → K A) : afieldAddr E A dst T x f K := by
  unfold afieldAddrO at h
  unfold afieldAddr
  cases hl : look T E.te with
  | none => simp only [hl] at h; cases x <;> cases h
  | some ti =>
    simp only [hl] at h ⊢
    cases ti with
    | strct fs m z =>
      simp only at h ⊢
      repeat' split at h
      all_goals first | (cases h; done) | (simp only [*] <;> exact finO_ok h hk)
    | flat fs m z =>
      simp only at h ⊢
      repeat' split at h
      all_goals first | (cases h; done) | (simp only [*] <;> exact finO_ok h hk)
    | _ => cases x <;> cases h
theorem afieldO_ok {T : TypeId} {x : Operand} {f : Nat} (h : afieldO E A dst T x f Ko = some r) (hk : ∀ A, Ko A = some r → K A) : afield E A dst T x f K := by
  unfold afieldO at h
  unfold afield
  repeat' split at h
  all_goals first | (cases h; done) | (simp only [*, if_true, Bool.false_eq_true, if_false] <;> exact finO_ok h hk)
theorem aindexAddrO_ok {T : TypeId} {x i : Operand} (h : aindexAddrO E A dst T x i Ko = some r) (hk : ∀ A, Ko A = some r → K A) : aindexAddr E A dst T x i K := by
  unfold aindexAddrO at h
  unfold aindexAddr
  repeat' split at h
  all_goals first | (cases h; done) | (simp only [*]; obtain ⟨h1, h⟩ := chk_some h; obtain ⟨h2, h⟩ := chk_some h; first | exact ⟨h1, h2, finO_ok h hk⟩ | exact ⟨h1, h2, getO_ok h fun v h => finO_ok h hk⟩)
theorem aindexO_ok {T : TypeId} {x i : Operand} (h : aindexO E A dst T x i Ko = some r) (hk : ∀ A, Ko A = some r → K A) : aindex E A dst T x i K := by
  unfold aindexO at h
  unfold aindex
  split at h
  · rename_i h1 h2 h3
    simp only [h1, h2, h3]
    obtain ⟨g1, h⟩ := chk_some h
    obtain ⟨g2, h⟩ := chk_some h
    obtain ⟨g3, h⟩ := chk_some h
    refine ⟨g1, g2, g3, ?_⟩
    split at h
    · cases h
    · rename_i h4
      obtain ⟨g4, h⟩ := chk_some h
      simp only [h4]
      exact ⟨g4, getO_ok h fun v h => finO_ok h hk⟩
    · rename_i h4
      obtain ⟨g4, h⟩ := chk_some h
      simp only [h4]
      exact ⟨g4, finO_ok h hk⟩
  · cases h
theorem aappendO_ok {T : TypeId} {x y : Operand} (h : aappendO E A dst T x y Ko = some r) (hk : ∀ A, Ko A = some r → K A) : aappend E A dst T x y K := by
  unfold aappendO at h
  unfold aappend
  repeat' split at h
  all_goals first | (cases h; done) | (simp only [*] <;> obtain ⟨h1, h⟩ := chk_some h; first | exact ⟨h1, fin1O_ok h hk⟩ | (obtain ⟨h2, h⟩ := chk_some h; first | exact ⟨h1, h2, fin1O_ok h hk⟩ | exact ⟨trivial, h2, fin1O_ok h hk⟩))
theorem alenO_ok {T : TypeId} {x : Operand} (h : alenO E A dst T x Ko = some r) (hk : ∀ A, Ko A = some r → K A) : alen E A dst T x K := by
  unfold alenO at h
  unfold alen
  repeat' split at h
  all_goals first | (cases h; done) | (simp only [*] <;> exact finO_ok h hk)
theorem extract1O_ok {x : Operand} {i : Nat} (h : extract1O E A dst x i Ko = some r) (hk : ∀ A, Ko A = some r → K A) : extract1 E A dst x i K := by
  unfold extract1O at h
  unfold extract1
  repeat' split at h
  all_goals first | (cases h; done) | (simp only [*] <;> exact finO_ok h hk)
theorem abuildSO'_ok {T : TypeId} {n : Nat} {ps : List (Nat × Operand)} (h : abuildSO' E A dst T n ps Ko = some r) (hk : ∀ A, Ko A = some r → K A) : abuildS' E A dst T n ps K := by
  unfold abuildSO' at h
  unfold abuildS'
  split at h
  · rename_i h0
    simp only [h0]
    unfold abuildSSO at h
    unfold abuildSS
    split at h
    · rename_i h1
      rw [if_pos h1]
      split at h
      · rename_i h2
        simp only [h2]
        exact fin1O_ok h hk
      · cases h
    · cases h
  · rename_i h0
    split
    · rename_i h1
      exact absurd h1 (h0 _ _)
    · exact abuildSO_ok h hk
theorem selO_some {i : Int} {f : Nat → Option ρ} : ∀ {k j : Nat}, selO i f j k = some r → ∃ m : Nat, j ≤ m ∧ m < j + k ∧ i = m ∧ f m = some r
  | 0, _, h => by simp [selO] at h
  | k + 1, j, h => by
    unfold selO at h
    by_cases hi : i = j
    · simp only [hi, decide_true, brO] at h
      exact ⟨j, Nat.le_refl _, by omega, hi, h⟩
    · simp only [hi, decide_false, brO] at h
      obtain ⟨m, h1, h2, h3, h4⟩ := selO_some h
      exact ⟨m, by omega, by omega, h3, h4⟩
theorem aindexAddrO'_ok {T : TypeId} {x i : Operand} (h : aindexAddrO' E A dst T x i Ko = some r) (hk : ∀ A, Ko A = some r → K A) : aindexAddr' E A dst T x i K := by
  unfold aindexAddrO' at h
  unfold aindexAddr'
  split at h
  · rename_i h0
    simp only [h0]
    split at h
    · rename_i h1 h2
      simp only [h1, h2]
      obtain ⟨m, g1, g2, rfl, g4⟩ := selO_some h
      exact ⟨by omega, by omega, by rw [Int.toNat_natCast]; exact finO_ok g4 hk⟩
    · cases h
  · rename_i h0
    split
    · rename_i h1
      exact absurd h1 (h0 _ _)
    · exact aindexAddrO_ok h hk
theorem alenO'_ok {T : TypeId} {x : Operand} (h : alenO' E A dst T x Ko = some r) (hk : ∀ A, Ko A = some r → K A) : alen' E A dst T x K := by
  unfold alenO' at h
  unfold alen'
  split at h
  · rename_i hT
    simp only [hT]
    split at h
    · rename_i hx; simp only [hx]; exact finO_ok h hk
    · cases h
  · rename_i hT
    simp only [hT]
    split at h
    · rename_i hx; simp only [hx]; exact finO_ok h hk
    · rename_i hn
      split
      · rename_i hx; exact (hn hx).elim
      · exact alenO_ok h hk
  · rename_i h1 h2
    split
    · rename_i hT; exact (h1 _ _ hT).elim
    · rename_i hT; exact (h2 _ _ hT).elim
    · exact alenO_ok h hk
theorem abuildAO_ok {T : TypeId} {ps : List (Nat × Operand)} (h : abuildAO E A dst T ps Ko = some r) (hk : ∀ A, Ko A = some r → K A) : abuildA E A dst T ps K := by
  unfold abuildAO at h
  unfold abuildA
  repeat' split at h
  all_goals first | (cases h; done) | (simp only [*, if_true, Bool.false_eq_true, if_false] <;> exact finO_ok h hk)
theorem aboxO'_ok {x : Operand} (h : aboxO' E A dst x Ko = some r) (hk : ∀ A, Ko A = some r → K A) : abox' E A dst x K := by
  unfold aboxO' at h
  unfold abox'
  split at h
  · rename_i hx
    simp only [hx]
    split at h
    · split at h
      · rename_i hc
        simp only
        rw [if_pos hc]
        split at h
        · rename_i hb; simp only [hb]; exact hk _ h
        · cases h
      · cases h
    · cases h
  · rename_i hn
    split
    · rename_i hx; exact (hn _ hx).elim
    · exact aboxO_ok h hk
theorem astoreAO_ok {T : TypeId} {s : Nat} {v : List AV} (h : astoreAO E A T s v Ko = some r) (hk : ∀ A, Ko A = some r → K A) : astoreA E A T s v K := by
  unfold astoreAO at h
  unfold astoreA
  split at h
  · rename_i h1 h2
    simp only [h1, h2]
    split at h
    · rename_i hc
      rw [if_pos hc]
      split at h
      · rename_i hb; simp only [hb]; exact hk _ h
      · cases h
    · cases h
  · cases h
theorem astoreO'_ok {T : TypeId} {x y : Operand} (h : astoreO' E A T x y Ko = some r) (hk : ∀ A, Ko A = some r → K A) : astore' E A T x y K := by
  unfold astoreO' at h
  unfold astore'
  split at h
  · rename_i hy
    simp only [hy]
    split at h
    · split at h
      · rename_i hl; simp only [hl]; exact astoreAO_ok h hk
      · rename_i hl; simp only [hl]; exact astoreAO_ok h hk
      · cases h
    · cases h
  · rename_i hn
    split
    · rename_i hx; exact (hn _ hx).elim
    · exact astoreO_ok h hk
end
end Go.Gx

/-
  Gx42: the reckoning machine's soundness for code.
  Conditions: none; pieces of code for which a function answers are asked one by one.
-/
namespace Go.Gx
open Go

section
variable {ρ : Type} {r : ρ} {E : Env} {orc : OrcO ρ} {A : Fr} {dst : Option Nat} {Ko : Fr → Option ρ} {K : Fr → Prop}
/-- The contracts and their answers go together. -/
def OrcOK (E : Env) (orc : OrcO ρ) : Prop := ∀ f ms g, look f orc = some (ms, g) → ∃ sp, look f E.orc = some sp ∧ sp.modes = ms ∧
  ∀ vs (Ko : AV → List AV → Option ρ) r (K : AV → List AV → Prop), g vs Ko = some r → (∀ v o, Ko v o = some r → K v o) → sp.sem vs K
theorem acallO_ok (ho : OrcOK E orc) {f : FuncId} {args : List Operand} {capt : Option Nat} (h : acallO E orc A dst f args capt Ko = some r) (hk : ∀ A, Ko A = some r → K A) : acall E A dst f args capt K := by
  unfold acallO at h
  unfold acall
  split at h
  · cases h
  · rename_i ms g hl
    obtain ⟨sp, h1, rfl, h2⟩ := ho _ _ _ hl
    simp only [h1]
    split at h
    · rename_i hlen
      simp only [hlen, if_true]
      split at h
      · cases h
      · rename_i A' hA
        simp only [hA]
        split at h
        · rename_i vs ps ls extra ls' ha hc
          simp only [ha, hc]
          split at h
          · rename_i hn
            simp only [hn, if_true]
            refine h2 _ _ _ _ h fun v o hv => ?_
            split at hv
            · rename_i A₂ hb
              simp only [hb]
              exact finO_ok hv hk
            · cases hv
          · cases h
        · cases h
    · cases h
theorem acallFO_ok (ho : OrcOK E orc) {f : FuncId} {ms : List Mode} {args : List Operand} {t s fl : Nat} (h : acallFO E orc A dst f ms args t s fl Ko = some r) (hk : ∀ A, Ko A = some r → K A) : acallF E A dst f ms args t s fl K := by
  unfold acallFO at h
  unfold acallF
  split at h
  · rename_i A₁ hA
    simp only [hA]
    split at h
    · rename_i hc
      rw [if_pos hc]
      refine acallO_ok ho h fun A₂ h2 => ?_
      split at h2
      · rename_i A₃ hb
        simp only [hb]
        exact hk _ h2
      · cases h2
    · cases h
  · cases h
theorem acallFn_ok (ho : OrcOK E orc) {f : FuncId} {args : List Operand}
    (h : (match (look f orc).bind fun p => (afArg A p.1 args).map fun q => (p.1, q) with
      | some (ms, t, s, fl) => acallFO E orc A dst f ms args t s fl Ko
      | none => acallO E orc A dst f args none Ko) = some r) (hk : ∀ A, Ko A = some r → K A) :
    (match (look f E.orc).bind fun sp => (afArg A sp.modes args).map fun p => (sp.modes, p) with
      | some (ms, t, s, fl) => acallF E A dst f ms args t s fl K
      | none => acall E A dst f args none K) := by
  cases hl : look f orc with
  | none =>
    simp only [hl, Option.bind_none] at h
    unfold acallO at h
    simp [hl] at h
  | some p =>
    obtain ⟨ms, g⟩ := p
    obtain ⟨sp, h1, rfl, _⟩ := ho _ _ _ hl
    simp only [hl, h1, Option.bind_some] at h ⊢
    cases hq : afArg A sp.modes args with
    | none =>
      simp only [hq, Option.map_none] at h ⊢
      exact acallO_ok ho h hk
    | some q =>
      obtain ⟨t, s, fl⟩ := q
      simp only [hq, Option.map_some] at h ⊢
      exact acallFO_ok ho h hk
theorem acallOpO_ok (ho : OrcOK E orc) {c : Call} (h : acallOpO E orc A dst c Ko = some r) (hk : ∀ A, Ko A = some r → K A) : acallOp E A dst c K := by
  unfold acallOpO at h
  unfold acallOp
  split at h
  case h_4 f hc =>
    simp only [hc]
    exact acallFn_ok ho h hk
  all_goals
    repeat' split at h
    all_goals first | (cases h; done) | (simp only [*] <;> (first | exact alenO'_ok h hk | exact aappendO_ok h hk | exact finO_ok h hk | exact acallO_ok ho h hk))
theorem aopO_ok (ho : OrcOK E orc) {o : Oper} (h : aopO E orc A o Ko = some r) (hk : ∀ A, Ko A = some r → K A) : aop E A o K := by
  unfold aopO at h
  unfold aop
  split at h
  · rename_i h0; simp only [h0]; exact amoveO_ok h hk
  · rename_i h0; simp only [h0]; exact amoveO_ok h hk
  · rename_i h0
    simp only [h0]
    split at h
    · rename_i h1; simp only [h1]; exact brO_some h (fun h => amoveO_ok h hk) (fun h => amoveO_ok h hk)
    · cases h
  · rename_i h0
    simp only [h0]
    split at h <;> first | (cases h; done) | (rename_i h1; simp only [h1]; exact fin1O_ok h hk)
  · rename_i h0; simp only [h0]; exact aboxO'_ok h hk
  · rename_i h0
    simp only [h0]
    split at h
    · rename_i hc; rw [if_pos hc]; exact abuildAO_ok h hk
    · rename_i hc; rw [if_neg hc]; exact abuildO_ok h hk
  · rename_i h0; simp only [h0]; exact abuildSO'_ok h hk
  · rename_i h0; simp only [h0]; exact aloadO_ok h hk
  · rename_i h0
    simp only [h0]
    split at h
    · rename_i h1; simp only [h1]; exact astoreO'_ok h hk
    · cases h
  · rename_i h0; simp only [h0]; exact anilO_ok h hk
  · rename_i h0; simp only [h0]; exact abinopO_ok h hk
  · rename_i h0
    simp only [h0]
    split at h
    · rename_i h1; simp only [h1]; exact aunO_ok h fun v h => finO_ok h hk
    · cases h
  · rename_i h0
    simp only [h0]
    split at h
    · rename_i h1 h2 h3; simp only [h1, h2, h3]; exact finO_ok h hk
    · cases h
  · rename_i h0
    simp only [h0]
    split at h
    · rename_i h1
      simp only [h1, if_true]
      split at h
      · rename_i h2; simp only [h2]; exact finO_ok h hk
      · cases h
    · cases h
  · rename_i h0
    simp only [h0]
    split at h
    · rename_i h1 h2 h3
      simp only [h1, h2, h3]
      split at h
      · rename_i h4
        simp only [h4]
        obtain ⟨g1, h⟩ := chk_some h
        obtain ⟨g2, h⟩ := chk_some h
        obtain ⟨g3, h⟩ := chk_some h
        exact ⟨g1, g2, g3, fin1O_ok h hk⟩
      · cases h
    · cases h
  · rename_i h0; simp only [h0]; exact asliceO_ok h hk
  · rename_i h0; simp only [h0]; exact afieldAddrO_ok h hk
  · rename_i h0; simp only [h0]; exact afieldO_ok h hk
  · rename_i h0; simp only [h0]; exact aindexAddrO'_ok h hk
  · rename_i h0; simp only [h0]; exact aindexO_ok h hk
  · rename_i h0; simp only [h0]; exact extract1O_ok h hk
  · rename_i h0; simp only [h0]; exact acallOpO_ok ho h hk
  · cases h
theorem askipO_ok {o : Oper} (h : askipO E A o Ko = some r) (hk : ∀ A, Ko A = some r → K A) : askip E A o K := finO_ok h hk
theorem guardedO_ok (ho : OrcOK E orc) {ops : Array Oper} {o : Oper} (h : guardedO E orc A ops o Ko = some r) (hk : ∀ A, Ko A = some r → K A) : guarded E A ops o K := by
  unfold guardedO at h
  unfold guarded
  split at h
  · rename_i h0; simp only [h0]; exact aopO_ok ho h hk
  · rename_i h0
    simp only [h0]
    split at h
    · rename_i h1
      simp only [h1]
      split at h
      · rename_i h2
        simp only [h2]
        exact brO_some h (fun h => brO_some h (fun h => aopO_ok ho h hk) (fun h => askipO_ok h hk)) (fun h => brO_some h (fun h => askipO_ok h hk) (fun h => aopO_ok ho h hk))
      · rename_i h2
        simp only [h2]
        exact askipO_ok h hk
      · cases h
    · cases h
theorem aopsO_ok (ho : OrcOK E orc) {ops : Array Oper} : ∀ {l : List Oper} {A : Fr}, aopsO E orc ops l A Ko = some r → (∀ A, Ko A = some r → K A) → aops E ops l A K
  | [], _, h, hk => hk _ h
  | _ :: _, _, h, hk => guardedO_ok ho h fun _ h => aopsO_ok ho h hk
end

/-! ### Code -/
/-- The code does it in the model, whatever lies around. -/
def Sem (P : Program) (E : Env) (c : Code) (A : Fr) (K : Exit → Fr → Prop) : Prop :=
  ∀ (r : Option Nat) (C : Ctx) (S : Nat → Prop) (a : Act) (w : World) (Q : Exit → Act → World → Prop), (r = none ∨ ndf c = true) → EnvOK P E C → Inv C E.n S A a w → (∀ e, Nx C E.n S (K e) (Q e)) → c.wpIn (rnd r) 0 P Q a w
/-- A function answers for a piece of code. -/
def CodOK {ρ : Type} (P : Program) (E : Env) (c : Code) (J : CodO ρ) : Prop :=
  ∀ (A : Fr) (Ko : Exit → Fr → Option ρ) (r : ρ) (K : Exit → Fr → Prop), J A Ko = some r → (∀ e A, Ko e A = some r → K e A) → Sem P E c A K
section
variable {ρ : Type} {P : Program} {E : Env} {orc : OrcO ρ} {T : Tab ρ}
/-- Whatever the table's functions answer for, they answer well. -/
def Cov (P : Program) (E : Env) (T : Tab ρ) : Code → Prop
  | .seq a b => Cov P E T a ∧ (match (firstReg b).bind fun i => look i T.jp with
    | some (_, J) => CodOK P E b J
    | none => Cov P E T b)
  | .cond _ x y => Cov P E T x ∧ Cov P E T y
  | .block _ b => Cov P E T b
  | .loop b => match (firstReg b).bind fun i => look i T.lp with
    | some J => ∀ (A : Fr) (Ko : Exit → Fr → Option ρ) (r : ρ) (K : Exit → Fr → Prop), J (restr (keepOf E b) A) Ko = some r → (∀ e A, Ko e A = some r → K e A) → Sem P E (.loop b) A K
    | none => True
  | .region id ops draw => match look id T.rg with
    | some G => ∀ (A : Fr) (Ko : Fr → Option ρ) (r : ρ) (K : Exit → Fr → Prop), G A Ko = some r → (∀ A, Ko A = some r → K .normal A) → Sem P E (.region id ops draw) A K
    | none => True
  | .rangeFunc g ps x b => match T.rf with
    | some J => ∀ (A : Fr) (Ko : Exit → Fr → Option ρ) (r : ρ) (K : Exit → Fr → Prop), J A Ko = some r → (∀ e A, Ko e A = some r → K e A) → Sem P E (.rangeFunc g ps x b) A K
    | none => True
  | _ => True

theorem look_cutTo {keep : List Nat} {s : Nat} {v : AV} : ∀ {A : Fr}, (A.map (·.1)).Nodup → look s (cutTo keep A) = some v → look s A = some v ∧ s ∈ keep ∧ v.ref.all keep.contains = true
  | [], _, h => by simp [cutTo, look] at h
  | (t, x) :: A, hn, h => by
    rw [List.map_cons, List.nodup_cons] at hn
    unfold cutTo at h
    rw [List.filter_cons] at h
    split at h
    · rename_i hc
      simp only [Bool.and_eq_true] at hc
      simp only [look] at h ⊢
      split at h
      · rename_i ht
        simp at ht h
        subst ht; subst h
        exact ⟨by simp, by simpa using hc.1, hc.2⟩
      · rename_i ht
        simp only [ht]
        exact look_cutTo hn.2 h
    · have ih := look_cutTo (A := A) hn.2 h
      refine ⟨?_, ih.2⟩
      simp only [look]
      have hst : ¬ (t == s) = true := by
        intro hts
        have hm := List.mem_map_of_mem (f := fun e : Nat × AV => e.1) (look_mem ih.1)
        simp only [beq_iff_eq] at hts
        rw [← hts] at hm
        exact hn.1 hm
      simp only [hst]
      exact ih.1
theorem look_cutTo' {keep : List Nat} {s : Nat} {v : AV} (hs : s ∈ keep) (hv : v.ref.all keep.contains = true) : ∀ {A : Fr}, look s A = some v → look s (cutTo keep A) = some v
  | [], h => by simp [look] at h
  | (t, x) :: A, h => by
    unfold cutTo
    rw [List.filter_cons]
    simp only [look] at h
    split at h
    · rename_i ht
      simp at ht h
      subst ht; subst h
      simp only [List.contains_eq_mem, hs, decide_true, hv, Bool.and_self, if_true, look, beq_self_eq_true]
    · rename_i ht
      split
      · simp only [look, ht]
        exact look_cutTo' hs hv h
      · exact look_cutTo' hs hv h
theorem Inv.cutTo {C : Ctx} {S : Nat → Prop} {A : Fr} {a : Act} {w : World} {n : Rg} (h : Inv C n S A a w) (keep : List Nat) : Inv C n S (cutTo keep A) a w := by
  have lk : ∀ s v, look s (Gx.cutTo keep A) = some v → look s A = some v ∧ s ∈ keep ∧ v.ref.all keep.contains = true := fun s v hs => look_cutTo h.keys hs
  refine h.step (fun _ => False) (fun _ => True) (Mod.refl _ _) (fun _ hb => hb.elim) h.size (fun _ _ => rfl) rfl ?_ ?_ (fun _ hb => hb) (fun _ hb => .inl hb) ?_ ?_ ?_
  · unfold Gx.cutTo
    exact (List.filter_sublist.map _).nodup h.keys
  · intro s v t hs ht
    obtain ⟨h1, h2, h3⟩ := lk s v hs
    obtain ⟨l, hl⟩ := h.bxs s v t h1 ht
    have htk : t ∈ keep := by
      have := List.all_eq_true.1 h3 t (fref_ref ht)
      simpa using this
    exact ⟨l, look_cutTo' htk (by rfl) hl⟩
  · intro s v hg
    exact (hg trivial).elim
  · intro s v _ hs
    obtain ⟨h1, _, _⟩ := lk s v hs
    exact ⟨h.rel s v h1, h.nd s v h1, fun b hb => ⟨(h.apart s v h1 b hb).1, .inl ⟨s, v, trivial, h1, hb⟩⟩⟩
  · intro s v t u _ _ hne hs ht b hb hb'
    exact h.dj s v t u (lk s v hs).1 (lk t u ht).1 hne b hb hb'
theorem Sem.cutTo {c : Code} {A : Fr} {K : Exit → Fr → Prop} {keep : List Nat} (h : Sem P E c (cutTo keep A) K) : Sem P E c A K :=
  fun r C S a w Q hr hE hI hn => h r C S a w Q hr hE (hI.cutTo keep) hn
theorem Inv.frzL {C : Ctx} {a : Act} {w : World} : ∀ {l : List Nat} {S : Nat → Prop} {A : Fr}, Inv C E.n S A a w → ∃ S', (∀ b, S b → S' b) ∧ Inv C E.n S' (frzL l A) a w
  | [], S, A, h => ⟨S, fun _ hb => hb, h⟩
  | t :: r, S, A, h => by
    unfold Gx.frzL
    split
    · rename_i v hv
      split
      · rename_i A' v' hf
        obtain ⟨S', h1, h2, _⟩ := frz_ok h (x := .tmp t) hv hf
        obtain ⟨S'', h3, h4⟩ := Inv.frzL (l := r) h2
        exact ⟨S'', fun b hb => h3 b (h1 b hb), h4⟩
      · exact Inv.frzL h
    · exact Inv.frzL h
theorem Sem.frzAt {c b : Code} {A : Fr} {K : Exit → Fr → Prop} (h : Sem P E c (frzAt T b A) K) : Sem P E c A K := by
  intro r C S a w Q hr hE hI hn
  unfold Gx.frzAt at h
  split at h
  · rename_i l _
    obtain ⟨S', h1, h2⟩ := Inv.frzL (l := l) hI
    exact h r C S' a w Q hr hE h2 fun e => (hn e).mono h1
  · exact h r C S a w Q hr hE hI hn
theorem AEO_ok (ho : OrcOK E orc) : ∀ (c : Code) {Ko : Exit → Fr → Option ρ} {K : Exit → Fr → Prop} {r : ρ} {A : Fr}, Cov P E T c → AEO E orc T c A Ko = some r → (∀ e A, Ko e A = some r → K e A) → Sem P E c A K
  | .skip, Ko, K, r, A, hc, h, hk => fun r₀ C S a w Q hr hE hI hn => wpIn_skip (hn .normal A a w S hI (fun _ hb => hb) (hk _ _ h))
  | .region id ops draw, Ko, K, r, A, hc, h, hk => fun r₀ C S a w Q hr hE hI hn => by
    unfold AEO at h
    unfold Cov at hc
    split at h
    · rename_i G hG
      rw [hG] at hc
      exact hc A (Ko .normal) r K h (fun A hA => hk _ _ hA) r₀ C S a w Q hr hE hI hn
    cases hp : (!draw || pairsOK ops) with
    | false => rw [hp] at h; cases h
    | true =>
      rw [hp] at h
      refine region_okR (K := fun A => Ko .normal (cutAt T id A) = some r) hE hI hr ?_ (aopsO_ok ho h fun _ h => h) ?_
      · cases draw with
        | false => trivial
        | true => exact (by simpa using hp : pairsOK ops = true)
      · intro A' a' w' S' hI' hS' hK'
        unfold cutAt at hK'
        split at hK'
        · rename_i l _
          exact hn .normal _ a' w' S' (hI'.cutTo l) hS' (hk _ _ hK')
        · exact hn .normal _ a' w' S' hI' hS' (hk _ _ hK')
  | .seq x y, Ko, K, r, A, hc, h, hk => fun r₀ C S a w Q hr hE hI hn => by
    unfold AEO at h
    obtain ⟨hx, hy⟩ := hc
    have hr1 : r₀ = none ∨ ndf x = true := hr.imp (fun h => h) fun h => (Bool.and_eq_true_iff.1 (show (ndf x && ndf y) = true from h)).1
    have hr2 : r₀ = none ∨ ndf y = true := hr.imp (fun h => h) fun h => (Bool.and_eq_true_iff.1 (show (ndf x && ndf y) = true from h)).2
    refine wpIn_seq (AEO_ok ho x (K := fun e A' => match e with | .normal => Sem P E y A' K | e => K e A') hx h ?_ r₀ C S a w _ hr1 hE hI ?_)
    · intro e A' hA'
      cases e with
      | normal =>
        simp only [thenO] at hA'
        show Sem P E y A' K
        cases hj : (firstReg y).bind fun i => look i T.jp with
        | none =>
          simp only [hj] at hA' hy
          exact AEO_ok ho y hy hA' hk
        | some p =>
          obtain ⟨l, J⟩ := p
          simp only [hj] at hA' hy
          exact (hy _ _ _ _ hA' hk).cutTo
      | exit i => exact hk _ _ hA'
      | goto l => exact hk _ _ hA'
      | ret => exact hk _ _ hA'
      | panic ch => exact hk _ _ hA'
      | outgrown => exact hk _ _ hA'
    · intro e
      cases e with
      | normal => exact fun A' a' w' S' h' hS hK' => hK' r₀ C S' a' w' Q hr2 hE h' fun e => (hn e).mono hS
      | exit i => exact hn (.exit i)
      | goto l => exact hn (.goto l)
      | ret => exact hn .ret
      | panic ch => exact hn (.panic ch)
      | outgrown => exact hn .outgrown
  | .cond c x y, Ko, K, r, A, hc, h, hk => fun r₀ C S a w Q hr hE hI hn => by
    unfold AEO at h
    have hr1 : r₀ = none ∨ ndf x = true := hr.imp (fun h => h) fun h => (Bool.and_eq_true_iff.1 (show (ndf x && ndf y) = true from h)).1
    have hr2 : r₀ = none ∨ ndf y = true := hr.imp (fun h => h) fun h => (Bool.and_eq_true_iff.1 (show (ndf x && ndf y) = true from h)).2
    split at h
    · rename_i t hco
      have hev := eval_pv hI hco
      cases t with
      | true => exact wpIn_cond_true hev (AEO_ok ho x hc.1 h hk r₀ C S a w Q hr1 hE hI hn)
      | false => exact wpIn_cond_false hev (AEO_ok ho y hc.2 h hk r₀ C S a w Q hr2 hE hI hn)
    · cases h
  | .block id b, Ko, K, r, A, hc, h, hk => fun r₀ C S a w Q hr hE hI hn => by
    unfold AEO at h
    refine wpIn_block (AEO_ok ho b (K := inB id K) hc h ?_ r₀ C S a w _ hr hE hI ?_)
    · intro e A' hA'
      cases e with
      | exit i =>
        unfold inBO at hA'
        unfold inB
        simp only at hA' ⊢
        split at hA'
        · rename_i hi; simp only [hi, if_true]; exact hk _ _ hA'
        · rename_i hi; simp only [hi]; exact hk _ _ hA'
      | normal => exact hk _ _ hA'
      | goto l => exact hk _ _ hA'
      | ret => exact hk _ _ hA'
      | panic ch => exact hk _ _ hA'
      | outgrown => exact hk _ _ hA'
    · intro e
      cases e with
      | exit i =>
        intro A' a' w' S' h' hS hK'
        unfold inB at hK'
        unfold Exit.inBlock
        by_cases hi : i = id
        · simp only [hi, beq_self_eq_true, if_true] at hK' ⊢
          exact hn .normal A' a' w' S' h' hS hK'
        · simp only [beq_iff_eq, hi, if_false] at hK' ⊢
          exact hn (.exit i) A' a' w' S' h' hS hK'
      | normal => exact hn .normal
      | goto l => exact hn (.goto l)
      | ret => exact hn .ret
      | panic ch => exact hn (.panic ch)
      | outgrown => exact hn .outgrown
  | .loop b, Ko, K, r, A, hc, h, hk => by
    unfold AEO at h
    unfold Cov at hc
    cases hj : (firstReg b).bind fun i => look i T.lp with
    | none => simp only [hj] at h; cases h
    | some J =>
      simp only [hj] at h hc
      exact Sem.frzAt (hc _ _ _ _ h hk)
  | .exit id, Ko, K, r, A, hc, h, hk => fun r₀ C S a w Q hr hE hI hn => by
    unfold AEO at h
    split at h
    · rename_i l _
      exact wpIn_exit (hn (.exit id) _ a w S (hI.cutTo l) (fun _ hb => hb) (hk _ _ h))
    · exact wpIn_exit (hn (.exit id) A a w S hI (fun _ hb => hb) (hk _ _ h))
  | .ret, Ko, K, r, A, hc, h, hk => fun r₀ C S a w Q hr hE hI hn => wpIn_ret (hn .ret _ a w S (hI.cutTo T.rl) (fun _ hb => hb) (hk _ _ h))
  | .rangeFunc g ps x b, Ko, K, r, A, hc, h, hk => by
    unfold AEO at h
    unfold Cov at hc
    split at h
    · rename_i J hJ
      rw [hJ] at hc
      exact hc A Ko r K h hk
    · cases h
  | .scope .., Ko, K, r, A, hc, h, hk => by unfold AEO at h; cases h
  | .label .., Ko, K, r, A, hc, h, hk => by unfold AEO at h; cases h
  | .goto .., Ko, K, r, A, hc, h, hk => by unfold AEO at h; cases h
  | .refuse .., Ko, K, r, A, hc, h, hk => by unfold AEO at h; cases h

/-- A loop's rounds, in the model. -/
def rounds (P : Program) (E : Env) (b : Code) (K : Exit → Fr → Prop) : Nat → Fr → Prop
  | 0, _ => False
  | n + 1, A => Sem P E b A (fun e A' => match e with | .normal => rounds P E b K n (restr (keepOf E b) A') | e => K e A')
theorem Sem.loop {b : Code} {A : Fr} {K : Exit → Fr → Prop} {n : Nat} (h : rounds P E b K n (restr (keepOf E b) A)) : Sem P E (.loop b) A K := by
  intro r₀ C S a w Q hr hE hI hn
  have key : ∀ (N : Nat) (S' : Nat → Prop) (A : Fr) (a : Act) (w : World), (∀ b, S b → S' b) → Inv C E.n S' A a w → rounds P E b K N A → Code.roundsIn (rnd r₀) 0 P b Q N a w := by
    intro N
    induction N with
    | zero => intro S' A a w _ _ hi; exact hi.elim
    | succ N ih =>
      intro S' A a w hS hI hi
      refine hi r₀ C S' a w _ hr hE hI fun e => ?_
      cases e with
      | normal => exact fun A' a' w' S'' h' hS' hK' => ih S'' _ a' w' (fun b hb => hS' b (hS b hb)) (h'.restr (keepOf_nodup hE b)) hK'
      | exit i => exact (hn (.exit i)).mono hS
      | goto l => exact (hn (.goto l)).mono hS
      | ret => exact (hn .ret).mono hS
      | panic ch => exact (hn (.panic ch)).mono hS
      | outgrown => exact (hn .outgrown).mono hS
  exact wpIn_loop_rounds n (key n S _ a w (fun _ hb => hb) (hI.restr (keepOf_nodup hE b)) h)
/-- A loop's typed rounds answer for it: γ stays, σ turns. -/
theorem loop_cod (ho : OrcOK E orc) {b : Code} {γ σ : Type} (F : γ → σ → Fr) (dec : Fr → Option (γ × σ)) (step : γ → (Exit → Fr → Option ρ) → σ → (σ → Option ρ) → Option ρ)
    (hdec : ∀ A c s, dec A = some (c, s) → A = F c s)
    (hc : Cov P E T b)
    (hstep : ∀ c Ko s (nx : γ → σ → Option ρ), AEO E orc T b (F c s) (thenO (fun A => bnd (dec (restr (keepOf E b) A)) fun p => nx p.1 p.2) Ko) = step c Ko s (nx c))
    (N : Nat) (A : Fr) (Ko : Exit → Fr → Option ρ) (r : ρ) (K : Exit → Fr → Prop) (h : (bnd (dec (restr (keepOf E b) A)) fun p => iterM (step p.1 Ko) N p.2) = some r) (hk : ∀ e A, Ko e A = some r → K e A) : Sem P E (.loop b) A K := by
  have key : ∀ (N : Nat) (c : γ) (s : σ), iterM (step c Ko) N s = some r → rounds P E b K N (F c s) := by
    intro N
    induction N with
    | zero => intro c s h; cases h
    | succ N ih =>
      intro c s h
      unfold rounds
      have h' : step c Ko s ((fun c => iterM (step c Ko) N) c) = some r := h
      rw [← hstep c Ko s (fun c => iterM (step c Ko) N)] at h'
      refine AEO_ok ho b hc h' fun e A' hA' => ?_
      cases e with
      | normal =>
        simp only [thenO] at hA'
        obtain ⟨p, hp, hA'⟩ := bnd_some hA'
        have := hdec _ _ _ hp
        show rounds P E b K N (restr (keepOf E b) A')
        rw [this]
        exact ih _ _ hA'
      | exit i => exact hk _ _ hA'
      | goto l => exact hk _ _ hA'
      | ret => exact hk _ _ hA'
      | panic ch => exact hk _ _ hA'
      | outgrown => exact hk _ _ hA'
  obtain ⟨p, hp, h⟩ := bnd_some h
  refine Sem.loop (n := N) ?_
  rw [hdec _ _ _ hp]
  exact key N _ _ h
end
end Go.Gx

/-
  Gx43: a function keeps the contract that its model gives, when the machine reckons its body to that model.
  Conditions: none; the reckoning machine's soundness for functions.
-/
namespace Go.Gx
open Go

/-- A function's entry: its number, how its parameters are handed, its model, and how arguments and results look on frames. -/
structure Ent where
  f : FuncId
  ms : List Mode
  α : Type
  β : Type
  dec : List AV → Option α
  enc : α → List AV
  emb : β → AV × List AV
  m : α → Option β
  hdec : ∀ vs a, dec vs = some a → vs = enc a
def Ent.sem (e : Ent) (vs : List AV) (K : AV → List AV → Prop) : Prop := ∃ a b, vs = e.enc a ∧ e.m a = some b ∧ K (e.emb b).1 (e.emb b).2
def semAll (f : FuncId) (vs : List AV) (K : AV → List AV → Prop) : List Ent → Prop
  | [] => False
  | e :: r => (e.f = f ∧ e.sem vs K) ∨ semAll f vs K r
def ansAll {ρ : Type} (f : FuncId) (vs : List AV) (k : AV → List AV → Option ρ) : List Ent → Option ρ
  | [] => none
  | e :: r => brO (e.f == f) (match e.dec vs with | some a => bnd (e.m a) fun b => k (e.emb b).1 (e.emb b).2 | none => ansAll f vs k r) (ansAll f vs k r)
def specs (all : List Ent) : List Ent → Orc
  | [] => []
  | e :: r => (e.f, ⟨e.ms, fun vs K => semAll e.f vs K all⟩) :: specs all r
def answers (ρ : Type) (all : List Ent) : List Ent → OrcO ρ
  | [] => []
  | e :: r => (e.f, (e.ms, fun vs k => ansAll e.f vs k all)) :: answers ρ all r
def EntOK (P : Program) (gl : List (Nat × Sq)) (e : Ent) : Prop := ASound P (Glob gl) e.f ⟨e.ms, e.sem⟩ ∧ P.funcs[e.f]?.any (fun fn => fn.body.isSome && fn.name != "runtime.NumGoroutine") = true
def EntsOK (P : Program) (gl : List (Nat × Sq)) : List Ent → Prop
  | [] => True
  | e :: r => EntOK P gl e ∧ EntsOK P gl r
theorem semAll_sound {P : Program} {gl : List (Nat × Sq)} {f : FuncId} {ms : List Mode} : ∀ {l : List Ent}, EntsOK P gl l → ASound P (Glob gl) f ⟨ms, fun vs K => semAll f vs K l⟩
  | [], _ => fun _ _ _ _ _ _ _ _ h => h.elim
  | e :: r, hl => fun S L vs xs w K hG ha h => by
    rcases h with ⟨rfl, h⟩ | h
    · exact hl.1.1 S L vs xs w K hG ha h
    · exact semAll_sound (ms := ms) hl.2 S L vs xs w K hG ha h
theorem specs_ok {P : Program} {gl : List (Nat × Sq)} {all : List Ent} (hall : EntsOK P gl all) : ∀ {l : List Ent}, EntsOK P gl l → ∀ g sp, look g (specs all l) = some sp → ASound P (Glob gl) g sp ∧ P.funcs[g]?.any (fun fn => fn.body.isSome && fn.name != "runtime.NumGoroutine") = true
  | [], _, g, sp, h => by simp [specs, look] at h
  | e :: r, hl, g, sp, h => by
    simp only [specs, look] at h
    split at h
    · rename_i hg
      simp only [beq_iff_eq] at hg
      simp only [Option.some.injEq] at h
      subst hg; subst h
      exact ⟨semAll_sound hall, hl.1.2⟩
    · exact specs_ok hall hl.2 g sp h
theorem ansAll_ok {ρ : Type} {f : FuncId} {vs : List AV} {Ko : AV → List AV → Option ρ} {r : ρ} {K : AV → List AV → Prop} (hk : ∀ v o, Ko v o = some r → K v o) : ∀ {l : List Ent}, ansAll f vs Ko l = some r → semAll f vs K l
  | [], h => by cases h
  | e :: l, h => by
    unfold ansAll at h
    cases hf : e.f == f with
    | false => rw [hf] at h; exact .inr (ansAll_ok hk h)
    | true =>
      rw [hf] at h
      simp only [brO] at h
      simp only [beq_iff_eq] at hf
      split at h
      · rename_i a ha
        obtain ⟨b, hb, h⟩ := bnd_some h
        exact .inl ⟨hf, a, b, e.hdec _ _ ha, hb, hk _ _ h⟩
      · exact .inr (ansAll_ok hk h)
theorem answers_ok {ρ : Type} {all : List Ent} : ∀ {l : List Ent} {f : FuncId} {ms : List Mode} {g : List AV → (AV → List AV → Option ρ) → Option ρ}, look f (answers ρ all l) = some (ms, g) → ∃ sp, look f (specs all l) = some sp ∧ sp.modes = ms ∧
    ∀ vs (Ko : AV → List AV → Option ρ) r (K : AV → List AV → Prop), g vs Ko = some r → (∀ v o, Ko v o = some r → K v o) → sp.sem vs K
  | [], f, ms, g, h => by simp [answers, look] at h
  | e :: r, f, ms, g, h => by
    simp only [answers, specs, look] at h ⊢
    split at h
    · rename_i hg
      simp only [hg, if_true]
      simp only [Option.some.injEq, Prod.mk.injEq] at h
      obtain ⟨h1, h2⟩ := h
      subst h1; subst h2
      exact ⟨_, rfl, rfl, fun vs Ko r K h hk => ansAll_ok hk h⟩
    · rename_i hg
      simp only [hg]
      exact answers_ok h
theorem ares1O_ok {ρ : Type} {E : Env} {A : Fr} {rv : ResultVar} {Ko : Fr → AV → List Nat → Option ρ} {r : ρ} (h : ares1O E A rv Ko = some r) : ∃ A' v src, ares1 E A rv = some (A', v, src) ∧ Ko A' v src = some r := by
  have cell : ∀ (s : Nat) (l : List AV) (T : TypeId), (match acell E A s l T with | some (A', v, src) => Ko A' v src | none => none) = some r → ∃ A' v src, acell E A s l T = some (A', v, src) ∧ Ko A' v src = some r := by
    intro s l T h
    split at h
    · rename_i A' v src h1
      exact ⟨A', v, src, h1, h⟩
    · cases h
  have arr : ∀ (c : Sq) (T : TypeId), (match aggOf E T with | .agg m => chk ((c.len == m) = true) (Ko A (.aa c) []) | _ => none) = some r → ∃ A' v src, aacell E A c T = some (A', v, src) ∧ Ko A' v src = some r := by
    intro c T h
    unfold aacell
    split at h
    · rename_i m h1
      obtain ⟨h2, h⟩ := chk_some h
      refine ⟨A, .aa c, [], ?_, h⟩
      simp only [h1, h2, if_true]
    · cases h
  unfold ares1O at h
  unfold ares1
  split at h
  · split at h
    · rename_i h1; simp only [h1]; exact ⟨_, _, _, rfl, h⟩
    · rename_i h1
      simp only [h1]
      split at h
      · rename_i h2; simp only [h2]; exact ⟨_, _, _, rfl, h⟩
      · cases h
    · rename_i v n1 n2 h1
      split at h
      · rename_i h2
        refine ⟨A, v, [], ?_, h⟩
        simp only [h1]
        cases v <;> first | (exact (n1 _ _ rfl).elim) | (exact (n2 _ rfl).elim) | (simp only [h2, if_true])
      · cases h
    · cases h
  · split at h
    · rename_i h1; simp only [h1]; exact cell _ _ _ h
    · rename_i h1; simp only [h1]; exact arr _ _ h
    · rename_i h1
      simp only [h1]
      split at h
      · rename_i h2; simp only [h2]; exact cell _ _ _ h
      · rename_i h2; simp only [h2]; exact arr _ _ h
      · cases h
    · cases h
theorem aresSO_ok {ρ : Type} {E : Env} {A : Fr} {rv : ResultVar} {Ko : Fr → AV → Option ρ} {r : ρ} (h : aresSO E A rv Ko = some r) : ∃ A' v, aresS E A rv = some (A', v) ∧ Ko A' v = some r := by
  obtain ⟨A', v, src, h1, h⟩ := ares1O_ok h
  unfold aresS
  rw [h1]
  split at h
  · split at h
    · rename_i h2; exact ⟨A', v, by simp only [h2, if_true], h⟩
    · cases h
  · split at h
    · split at h
      · rename_i h2; simp only [h2]; exact ⟨_, _, rfl, h⟩
      · rename_i h2
        simp only [h2]
        split at h
        · rename_i h3; simp only [h3]; exact ⟨_, _, rfl, h⟩
        · cases h
      · cases h
    · cases h
  · cases h
theorem aresLO_ok {ρ : Type} {E : Env} : ∀ {rs : List ResultVar} {A : Fr} {Ko : Fr → List AV → Option ρ} {r : ρ}, aresLO E rs A Ko = some r → ∃ A' vs, aresL E A rs = some (A', vs) ∧ Ko A' vs = some r
  | [], A, _, _, h => ⟨A, [], rfl, h⟩
  | rv :: rs, A, Ko, r, h => by
    obtain ⟨A', v, h1, h⟩ := aresSO_ok h
    obtain ⟨A'', vs, h2, h⟩ := aresLO_ok h
    refine ⟨A'', v :: vs, ?_, h⟩
    unfold aresL
    rw [h1]
    simp only [h2]
theorem aretO_ok {ρ : Type} {E : Env} {A : Fr} {rs : List ResultVar} {ios : List Nat} {Ko : AV → List AV → Option ρ} {K : AV → List AV → Prop} {r : ρ} (h : aretO E A rs ios Ko = some r) (hk : ∀ v o, Ko v o = some r → K v o) : aret E A rs ios fun v o => K (fixR v) (o.map norm) := by
  unfold aretO at h
  unfold aret
  split at h
  · obtain ⟨A', v, src, h1, h⟩ := ares1O_ok h
    simp only [h1]
    split at h
    · rename_i h2
      simp only [h2, if_true]
      split at h
      · rename_i h3
        simp only [h3]
        exact hk _ _ h
      · cases h
    · cases h
  · rename_i hne
    obtain ⟨A', vs, h1, h⟩ := aresLO_ok h
    split at h
    · rename_i h2
      have := hk _ _ h
      split
      · exact (hne _ rfl).elim
      · simp only [h1, h2]
        exact this
    · cases h
/-! ### Nil slices handed back -/
section
variable {S L : Nat → Prop} {w w' : World} {ρ : Nat → Value}
theorem fixP_rps {v : AV} {x : Value} (h : RPs S L w v x) : RPs S L w (fixP v) x := by
  cases v with
  | nl e c => exact ⟨rfl, by rw [show x = .slice none 0 0 from h.2.1]; exact nl_ro h.2.2⟩
  | _ => exact h
theorem fixP_all : ∀ {l : List AV} {cs : List Value}, All2 (RPs S L w) l cs → All2 (RPs S L w) (l.map fixP) cs
  | [], [], _ => trivial
  | _ :: _, _ :: _, h => ⟨fixP_rps h.1, fixP_all h.2⟩
theorem fixT_rt {v : AV} {x : Value} (h : RT S L w v x) : RT S L w (fixT v) x := by
  cases v with
  | nl e c => exact fixP_rps (v := .nl e c) h
  | ag l => obtain ⟨cs, hx, hcs⟩ := h; exact ⟨cs, hx, fixP_all hcs⟩
  | _ => exact h
theorem fixT_all : ∀ {l : List AV} {cs : List Value}, All2 (RT S L w) l cs → All2 (RT S L w) (l.map fixT) cs
  | [], [], _ => trivial
  | _ :: _, _ :: _, h => ⟨fixT_rt h.1, fixT_all h.2⟩
theorem fixR_rv {v : AV} {x : Value} (h : RV S L w ρ v x) : RV S L w ρ (fixR v) x ∧ owned w (fixR v) x = owned w v x := by
  cases v with
  | nl e c => exact ⟨norm1_rp (C := { L := L, O := L, S₀ := S, w₀ := w, val := ρ }) (v := .nl e c) h, by rw [show x = .slice none 0 0 from h.1]; rfl⟩
  | ag l => obtain ⟨cs, hx, hcs⟩ := h; exact ⟨⟨cs, hx, fixP_all hcs⟩, by rfl⟩
  | tp l => obtain ⟨cs, hx, hcs⟩ := h; exact ⟨⟨cs, hx, fixT_all hcs⟩, by rfl⟩
  | _ => exact ⟨h, rfl⟩
theorem fixR_clean {v : AV} (h : v.clean = true) : (fixR v).clean = true := by
  have part : ∀ (l : List AV), (l.all fun | .pv _ | .sl _ | .nl _ _ => true | _ => false) = true → ((l.map fixP).all fun | .pv _ | .sl _ | .nl _ _ => true | _ => false) = true := by
    intro l h
    rw [List.all_eq_true] at h ⊢
    intro u hu
    obtain ⟨u', h1, rfl⟩ := List.mem_map.1 hu
    have := h u' h1
    cases u' <;> first | rfl | (simp at this)
  cases v with
  | nl e c => rfl
  | ag l => exact part l h
  | tp l =>
    unfold AV.clean at h
    unfold fixR AV.clean
    rw [List.all_eq_true] at h ⊢
    intro u hu
    obtain ⟨u', h1, rfl⟩ := List.mem_map.1 hu
    have := h u' h1
    cases u' with
    | ag l' => exact part l' this
    | _ => first | rfl | (simp at this)
  | _ => exact h
theorem norm_outs {C : Ctx} : ∀ {outs : List AV} {xs : List Value}, All2 (fun v x => RV S C.L w (fun _ => undef) v x) outs xs → All2 (fun v x => RV S C.L w (fun _ => undef) v x) (outs.map norm) xs ∧ ownAll w ((outs.map norm).zip xs) = ownAll w (outs.zip xs)
  | [], [], _ => ⟨trivial, rfl⟩
  | v :: outs, x :: xs, h => by
    obtain ⟨h1, h2⟩ := norm_outs (C := C) h.2
    obtain ⟨h3, h4, _, _⟩ := norm_rv (C := C) h.1
    refine ⟨⟨h3, h1⟩, ?_⟩
    unfold ownAll at h2 ⊢
    simp only [List.map_cons, List.zip_cons_cons, List.flatMap_cons]
    rw [h4, h2]
theorem Gives.fix {vs : List AV} {xs : List Value} {res : AV} {outs : List AV} {x : Value} {S' : Nat → Prop} (h : Gives S L vs xs w w' res outs x S') : Gives S L vs xs w w' (fixR res) (outs.map norm) x S' := by
  obtain ⟨h1, h2⟩ := fixR_rv h.rres
  obtain ⟨h3, h4⟩ := norm_outs (C := { L := fun _ => False, O := L, S₀ := S, w₀ := w, val := fun _ => undef }) h.routs
  refine ⟨fixR_clean h.clean, h.mod, h.s₀, h.sg, h.lt, h1, h3, ?_, ?_⟩
  · rw [h2, h4]; exact h.nd
  · rw [h2, h4]; exact h.apart
end
/-- The environment of a function. -/
def envOf (te : TE) (gl : List (Nat × Sq)) (l : List Ent) (n : Rg) (cut : List Nat) (keep : List (Nat × List Nat)) : Env := ⟨te, gl, specs l l, n, cut, keep⟩
theorem fnO_sound {P : Program} {e : Ent} {fn : Func} {body : Code} {l : List Ent} {te : TE} {gl : List (Nat × Sq)} {n : Rg} {cut : List Nat} {keep : List (Nat × List Nat)} {T : Tab e.β} {dr : AV → List AV → Option e.β}
    (hf : P.funcs[e.f]? = some fn) (hb : fn.body = some body) (hname : (fn.name != "runtime.NumGoroutine") = true) (hte : teOK P te = true) (hkeep : keep.all (fun e => nodupB e.2) = true) (hn : fn.ntmps = n.hi)
    (hl : EntsOK P gl l) (hc : Cov P (envOf te gl l n cut keep) T body)
    (hdr : ∀ v o b, dr v o = some b → e.emb b = (v, o))
    (ha : ∀ a, Nat.ble (e.enc a).length n.hi = true ∧ (iosOf (e.enc a) 0).all (fun i => Nat.blt i n.lo) = true)
    (hbody : ∀ a, AEO (envOf te gl l n cut keep) (answers e.β l l) T body (frameOf (e.enc a) 0) (bodyO (envOf te gl l n cut keep) fn.results.toList (e.enc a) dr) = e.m a) : EntOK P gl e := by
  refine ⟨?_, by rw [hf]; simp only [Option.any_some, hb, Option.isSome_some, Bool.true_and]; exact hname⟩
  intro S L vs xs w K hG hargs hsem
  obtain ⟨a₀, b₀, rfl, hm, hK⟩ := hsem
  obtain ⟨h1, h2⟩ := ha a₀
  have h1 : (e.enc a₀).length ≤ n.hi := Nat.le_of_ble_eq_true h1
  have h2 : ∀ i, i ∈ iosOf (e.enc a₀) 0 → i < n.lo := fun i hi => Nat.le_of_ble_eq_true (List.all_eq_true.1 h2 i hi)
  have hlen : xs.length = (e.enc a₀).length := hargs.rel.length
  refine (callsIn_wide (n := 0)).1 (callsIn_of_wp_marks hf hb trivial ?_)
  have hI := entry_ok (n := n) hargs h1
  rw [hn]
  have hE : EnvOK P (envOf te gl l n cut keep) { L := L, O := fun b => b ∈ ownAll w (ioOf (e.enc a₀) xs), S₀ := S, w₀ := w, val := fun i => xs.getD i undef } :=
    ⟨hte, hG, fun b hb => ⟨fun ho => (hargs.apart b ho).1 hb, hargs.lt b (.inl hb)⟩, hkeep, specs_ok hl hl⟩
  have hrun := hbody a₀
  rw [hm] at hrun
  refine AEO_ok (K := fun x A => match x with | .normal | .ret => aret (envOf te gl l n cut keep) A fn.results.toList (iosOf (e.enc a₀) 0) (fun v o => K (fixR v) (o.map norm)) | _ => False) (fun f ms g h => answers_ok h) body hc hrun ?_ none _ S _ w _ (.inl rfl) hE hI fun x => ?_
  · intro x A hA
    cases x with
    | normal => exact aretO_ok hA fun v o h => by have := hdr v o _ h; rw [this] at hK; exact hK
    | ret => exact aretO_ok hA fun v o h => by have := hdr v o _ h; rw [this] at hK; exact hK
    | _ => cases hA
  have done : ∀ (A : Fr) (a : Act) (w' : World) (S' : Nat → Prop), Inv { L := L, O := fun b => b ∈ ownAll w (ioOf (e.enc a₀) xs), S₀ := S, w₀ := w, val := fun i => xs.getD i undef } n S' A a w' → aret (envOf te gl l n cut keep) A fn.results.toList (iosOf (e.enc a₀) 0) (fun v o => K (fixR v) (o.map norm)) →
      LeavesInM Fence.wide 0 P fn a.tmps (fun e' w' => ∃ res outs x S', e' = .returned x ∧ K res outs ∧ Gives S L (e.enc a₀) xs w w' res outs x S') a.defers .returning w' := by
    intro A a w' S' hI' hK'
    obtain ⟨Ds, hds, hnd, hD⟩ := hI'.defers
    rw [hds]
    refine Inv.leave (LeavesIn Fence.wide 0 P fn a.tmps (fun e' w' => ∃ res outs x S', e' = .returned x ∧ K res outs ∧ Gives S L (e.enc a₀) xs w w' res outs x S') [] .returning) (fun w' h => h) (fun w' hI'' => ?_) Ds w' hnd hD (hI'.other (row := none) (Mod.refl _ _) (fun r e => by cases e) rfl Marks.nil)
    obtain ⟨x, res, outs, S₂, hr, hk, hg⟩ := exit_ok (E := envOf te gl l n cut keep) hte hlen h2 hI'' hK'
    exact ⟨x, hr, fixR res, outs.map norm, x, S₂, rfl, hk, hg.fix⟩
  cases x with
  | normal => exact fun A a w' S' hI' _ hK' => done A a w' S' hI' hK'
  | ret => exact fun A a w' S' hI' _ hK' => done A a w' S' hI' hK'
  | _ => exact fun A a w' S' hI' _ hK' => hK'.elim
/-- An entry that answers nothing. -/
theorem EntOK_none {P : Program} {gl : List (Nat × Sq)} {e : Ent} (hf : P.funcs[e.f]?.any (fun fn => fn.body.isSome && fn.name != "runtime.NumGoroutine") = true) (hm : ∀ a, e.m a = none) : EntOK P gl e := by
  refine ⟨?_, hf⟩
  intro S L vs xs w K _ _ hsem
  obtain ⟨a, b, _, h, _⟩ := hsem
  rw [hm a] at h
  cases h
end Go.Gx

/-
  Gx44: a region whose order the model draws, where not every two operations may be swapped: some orders speak for all.
  Conditions: none; laws on the model's schedules and on the reckoning machine.
-/
namespace Go.Gx
open Go

section
variable {P : Program} {ops : Array Oper} {o o₁ o₂ : Oper} {a : Act} {w : World} {next : Act → World → Prop}
/-- Two operations, whatever their order, may be swapped. -/
def commJ (ops : Array Oper) (j i : Nat) : Bool :=
  match ops[j]?, ops[i]? with
  | some o₁, some o₂ => commF ops o₁ o₂ && clsOK (opClass o₁.op) (opClass o₂.op)
  | _, _ => true
theorem swap_okI {j i : Nat} {r : List Nat} (hc : commJ ops j i = true) (h : okI P ops next (j :: i :: r) a w) : okI P ops next (i :: j :: r) a w := by
  unfold commJ at hc
  cases hj : ops[j]? with
  | none =>
    simp only [okI, hj] at h ⊢
    cases hi : ops[i]? with
    | none => simp only [hi] at h ⊢; exact h
    | some o => simp only [hi] at h ⊢; exact h
  | some o₁ =>
    cases hi : ops[i]? with
    | none => simp only [okI, hi, hj] at h ⊢; exact h
    | some o₂ =>
      rw [hj, hi] at hc
      simp only [Bool.and_eq_true] at hc
      obtain ⟨h1, h2⟩ := commF_ok hc.1
      simp only [okI, hi, hj] at h ⊢
      exact swapN (I := fun _ => True) (c₁ := .plain) (c₂ := .plain) h1 h2 (Swp.mk (by simp) (fun _ => hc.2) (by simp) (by simp) (by simp)) h
theorem tail_okI {i : Nat} {l l' : List Nat} (hl : ∀ a w, okI P ops next l a w → okI P ops next l' a w) (h : okI P ops next (i :: l) a w) : okI P ops next (i :: l') a w := by
  unfold okI at h ⊢
  split at h
  · exact hl _ _ h
  · exact stepG_mono h hl
theorem front_okI {i : Nat} {r : List Nat} : ∀ {l : List Nat} {a : Act} {w : World}, (∀ j, j ∈ l → commJ ops j i = true) → okI P ops next (l ++ i :: r) a w → okI P ops next (i :: (l ++ r)) a w
  | [], _, _, _, h => h
  | j :: l, a, w, hc, h => swap_okI (hc j (List.mem_cons_self ..)) (tail_okI (fun a w h => front_okI (fun k hk => hc k (List.mem_cons_of_mem _ hk)) h) h)
theorem okI_mono' {next' : Act → World → Prop} (hn : ∀ a w, next a w → next' a w) {l : List Nat} (h : okI P ops next l a w) : okI P ops next' l a w := okI_mono hn h
/-- x stands ahead of y. -/
def ahead (l : List Nat) (x y : Nat) : Prop := ∃ p q, l = p ++ q ∧ x ∈ p ∧ y ∈ q
theorem ahead_cons {l : List Nat} {x y i : Nat} (h : ahead l x y) : ahead (i :: l) x y := by
  obtain ⟨p, q, rfl, h1, h2⟩ := h
  exact ⟨i :: p, q, rfl, List.mem_cons_of_mem _ h1, h2⟩
theorem ahead_head {l : List Nat} {i y : Nat} (h : y ∈ l) : ahead (i :: l) i y := ⟨[i], l, rfl, by simp, h⟩
theorem not_ahead_head {l : List Nat} {i x : Nat} (hn : (i :: l).Nodup) : ¬ ahead (i :: l) x i := by
  rintro ⟨p, q, h, h1, h2⟩
  cases p with
  | nil => cases h1
  | cons k p =>
    rw [List.cons_append, List.cons.injEq] at h
    obtain ⟨rfl, rfl⟩ := h
    exact (List.nodup_cons.1 hn).1 (List.mem_append_right _ h2)
/-- One order for another: they have the same numbers, and two that may not be swapped stand alike. -/
theorem okI_orders : ∀ (σ l : List Nat), σ.Nodup → l.Perm σ → (∀ x y, ahead l x y → commJ ops x y = true ∨ ahead σ x y) → ∀ a w, okI P ops next l a w → okI P ops next σ a w
  | [], l, _, hp, _ => fun a w h => by rw [hp.eq_nil] at h; exact h
  | i :: σ, l, hn, hp, hc => fun a w h => by
    have him : i ∈ l := hp.mem_iff.2 (List.mem_cons_self ..)
    obtain ⟨l1, l2, rfl⟩ := List.append_of_mem him
    have hp' : (l1 ++ l2).Perm σ := (List.perm_middle.symm.trans hp).cons_inv
    refine tail_okI (fun a w h => okI_orders σ (l1 ++ l2) (List.nodup_cons.1 hn).2 hp' ?_ a w h) (front_okI (fun j hj => ?_) h)
    · intro x y hxy
      have hxy' : ahead (l1 ++ i :: l2) x y := by
        obtain ⟨p, q, he, h1, h2⟩ := hxy
        rcases List.append_eq_append_iff.1 he with ⟨c, rfl, rfl⟩ | ⟨c, rfl, rfl⟩
        · refine ⟨l1 ++ i :: c, q, by simp, ?_, h2⟩
          rcases List.mem_append.1 h1 with h1 | h1
          · exact List.mem_append_left _ h1
          · exact List.mem_append_right _ (List.mem_cons_of_mem _ h1)
        · refine ⟨p, c ++ i :: l2, by simp, h1, ?_⟩
          rcases List.mem_append.1 h2 with h2 | h2
          · exact List.mem_append_left _ h2
          · exact List.mem_append_right _ (List.mem_cons_of_mem _ h2)
      rcases hc x y hxy' with h3 | ⟨p, q, he, h1, h2⟩
      · exact .inl h3
      · right
        have hnd : (l1 ++ l2).Nodup := hp'.nodup_iff.2 (List.nodup_cons.1 hn).2
        have hx : x ∈ l1 ++ l2 := by
          obtain ⟨p', q', he', h1', _⟩ := hxy
          rw [he']; exact List.mem_append_left _ h1'
        have hne : x ≠ i := by
          rintro rfl
          exact (List.nodup_cons.1 hn).1 (hp'.mem_iff.1 hx)
        cases p with
        | nil => cases h1
        | cons k p =>
          rw [List.cons_append, List.cons.injEq] at he
          obtain ⟨rfl, rfl⟩ := he
          rcases List.mem_cons.1 h1 with h1 | h1
          · exact (hne h1).elim
          · exact ⟨p, q, rfl, h1, h2⟩
    · have : ahead (l1 ++ i :: l2) j i := ⟨l1, i :: l2, rfl, hj, List.mem_cons_self ..⟩
      rcases hc j i this with h3 | h3
      · exact h3
      · exact (not_ahead_head hn h3).elim
/-! ### The schedules -/
/-- A schedule's numbers, and what comes before what. -/
theorem go_perm (m : Region.Mode) (hfl : flowsB m ops = true) (hdir : ∀ (i : Nat) (o : Oper), ops[i]? = some o → ∀ k, k ∈ dirs o → k < i) : ∀ (fuel t : Nat) (listed : Array Bool) (acc : List Nat), listed.size = ops.size → (left ops listed).length ≤ fuel →
    ∃ suf, Region.linearise.go m ops fuel t listed acc = acc.reverse ++ suf ∧ suf.Perm (left ops listed) ∧ ∀ s1 i s2, suf = s1 ++ i :: s2 → ∀ o, ops[i]? = some o → ∀ k, k ∈ dirs o → k ∉ s2
  | 0, t, listed, acc, _, hl => by
    have : left ops listed = [] := List.eq_nil_of_length_eq_zero (by omega)
    refine ⟨[], by simp [Region.linearise.go], by rw [this], fun s1 i s2 h => by simp at h⟩
  | fuel + 1, t, listed, acc, hsz, hl => by
    unfold Region.linearise.go
    simp only
    generalize hrs : ((List.range ops.size).filter fun i => !listed.getD i true && ((ops[i]?).map (·.after.all fun e => !Region.binds m e || listed.getD e.on false)).getD false) = rs
    have mem_left : ∀ i, i ∈ left ops listed ↔ i < ops.size ∧ listed.getD i true = false := by
      intro i; simp [left]
    cases hi : rs[t % rs.length]? with
    | none =>
      simp only
      have hrs0 : rs = [] := by
        rcases List.eq_nil_or_concat rs with h | ⟨r, x, h⟩
        · exact h
        · exfalso
          have hlen : 0 < rs.length := by rw [h]; simp
          rw [List.getElem?_eq_none_iff] at hi
          have := Nat.mod_lt t hlen
          omega
      have : left ops listed = [] := by
        apply List.eq_nil_iff_forall_not_mem.2
        intro k hk
        obtain ⟨hkn, hku⟩ := (mem_left k).1 hk
        have getD_eq : ∀ k, k < ops.size → listed.getD k false = listed.getD k true := by
          intro k hk
          simp [Array.getD_eq_getD_getElem?, hsz, hk]
        unfold flowsB flowsL at hfl
        simp only [Bool.and_eq_true, List.all_eq_true, List.mem_range, List.contains_eq_mem, decide_eq_true_eq] at hfl
        obtain ⟨ht, hin, hlt⟩ := hfl
        obtain ⟨j, hj1, hj2, hj3⟩ := topo_ready (listed := listed) ht (by simp) ⟨k, hin k hkn, by rw [getD_eq k hkn]; exact hku⟩
        have hjn : j < ops.size := Nat.le_of_ble_eq_true (hlt j hj1)
        have hmem : j ∈ rs := by
          rw [← hrs, List.mem_filter]
          refine ⟨List.mem_range.2 hjn, ?_⟩
          have hju : listed.getD j true = false := by rw [← getD_eq j hjn]; exact hj2
          have ho : ops[j]? = some ops[j] := by simp [hjn]
          simp only [hju, Bool.not_false, Bool.true_and, ho, Option.map_some, Option.getD_some]
          rw [Array.all_eq_true']
          intro e he
          cases hb : Region.binds m e with
          | false => rfl
          | true => simpa using hj3 _ ho e (by simpa using he) hb
        rw [hrs0] at hmem
        cases hmem
      rw [this]
      exact ⟨[], by simp, List.Perm.refl _, fun s1 i s2 h => by simp at h⟩
    | some i =>
      simp only
      have hmem : i ∈ rs := List.mem_of_getElem? hi
      rw [← hrs, List.mem_filter] at hmem
      obtain ⟨hin, hcond⟩ := hmem
      have hin := List.mem_range.1 hin
      have ho : ops[i]? = some ops[i] := by simp [hin]
      simp only [Bool.and_eq_true, Bool.not_eq_true', ho, Option.map_some, Option.getD_some] at hcond
      obtain ⟨hiu, hedges⟩ := hcond
      rw [Array.all_eq_true'] at hedges
      have hdirs : ∀ k, k ∈ dirs ops[i] → listed.getD k false = true := by
        intro k hk
        obtain ⟨e, he, hb, rfl⟩ := dirs_mem hk
        have := hedges e (by simpa using he)
        rw [binds_any hb] at this
        simpa using this
      have him : i ∈ left ops listed := (mem_left i).2 ⟨hin, hiu⟩
      have sorted : (left ops listed).Pairwise (· < ·) := by
        have : (List.range ops.size).Pairwise (· < ·) := List.pairwise_lt_range
        exact this.filter _
      have hnd : (left ops listed).Nodup := sorted.imp (fun h => Nat.ne_of_lt h)
      have hset : ∀ k b, (listed.setIfInBounds i true).getD k b = if k = i then true else listed.getD k b := by
        intro k b
        simp only [Array.getD_eq_getD_getElem?, Array.getElem?_setIfInBounds]
        by_cases hk : i = k
        · subst hk; simp [hsz, hin]
        · simp [hk, Ne.symm hk]
      have hleft : left ops (listed.setIfInBounds i true) = (left ops listed).erase i := by
        have h1 : left ops (listed.setIfInBounds i true) = (left ops listed).filter (fun k => k != i) := by
          unfold left
          rw [List.filter_filter]
          congr 1
          funext k
          rw [hset]
          by_cases hk : k = i <;> simp [hk]
        rw [h1, hnd.erase_eq_filter]
      have hlen : (left ops (listed.setIfInBounds i true)).length ≤ fuel := by
        rw [hleft, List.length_erase_of_mem him]
        omega
      obtain ⟨suf, h1, h2, h3⟩ := go_perm m hfl hdir fuel (t / rs.length) (listed.setIfInBounds i true) (i :: acc) (by simp [hsz]) hlen
      refine ⟨i :: suf, by rw [h1]; simp, ?_, ?_⟩
      · rw [hleft] at h2
        exact (h2.cons i).trans (List.perm_cons_erase him).symm
      · intro s1 k s2 he o hok j hj
        cases s1 with
        | nil =>
          rw [List.nil_append, List.cons.injEq] at he
          obtain ⟨rfl, rfl⟩ := he
          rw [ho] at hok
          cases hok
          intro hjs
          have := h2.mem_iff.1 hjs
          rw [hleft] at this
          have hjl := (mem_left j).1 (List.mem_of_mem_erase this)
          have := hdirs j hj
          have e : listed.getD j false = listed.getD j true := by
            simp [Array.getD_eq_getD_getElem?, hsz, hjl.1]
          rw [e, hjl.2] at this
          cases this
        | cons x s1 =>
          rw [List.cons_append, List.cons.injEq] at he
          exact h3 s1 k s2 he.2 o hok j hj
/-- The numbers of the operations in each order that the model may draw. -/
structure Sched (ops : Array Oper) (σ : List Nat) : Prop where
  perm : σ.Perm (List.range ops.size)
  dirs : ∀ s1 i s2, σ = s1 ++ i :: s2 → ∀ o, ops[i]? = some o → ∀ k, k ∈ dirs o → k ∉ s2
theorem sched_of (hfl : (flowsB .text ops && (flowsB .gc ops && flowsB .any ops)) = true) (hdir : ∀ (i : Nat) (o : Oper), ops[i]? = some o → ∀ k, k ∈ dirs o → k < i) (mixed : Bool) (t : Nat) : Sched ops (Region.schedule mixed ops t) := by
  simp only [Bool.and_eq_true] at hfl
  have key : ∀ m t, flowsB m ops = true → Sched ops (Region.linearise m ops t) := by
    intro m t hm
    obtain ⟨suf, h1, h2, h3⟩ := go_perm m hm hdir ops.size t (Array.replicate ops.size false) [] (by simp) (by rw [left_all]; simp)
    unfold Region.linearise
    rw [h1]
    rw [left_all] at h2
    exact ⟨by simpa using h2, by simpa using h3⟩
  have all : ∀ m t, Sched ops (Region.linearise m ops t) := fun m t => key m t (by cases m; exact hfl.1; exact hfl.2.1; exact hfl.2.2)
  unfold Region.schedule
  split
  · exact all _ _
  · exact all _ _
/-! ### Which orders speak for all -/
/-- The numbers that conflict with another one that no edge orders. -/
def freeB (T : List (List Nat)) (ops : Array Oper) (i j : Nat) : Bool := commJ ops i j || ((T.getD i []).contains j || (T.getD j []).contains i)
def linOK (T : List (List Nat)) (V : List Nat) (reps : List (List Nat)) : Nat → List Nat → List Nat → Bool
  | 0, _, _ => false
  | f + 1, rem, acc => match rem with
    | [] => reps.any fun l => l.filter V.contains == acc.reverse
    | _ => rem.all fun i => rem.any (fun j => (T.getD i []).contains j) || linOK T V reps f (rem.erase i) (i :: acc)
/-- In an order, no number is ahead of one that must come before it, but for those that may be swapped. -/
def ordB (T : List (List Nat)) (ops : Array Oper) : List Nat → Bool
  | [] => true
  | i :: r => (r.all fun j => !(T.getD i []).contains j || commJ ops i j) && ordB T ops r
def permB (n : Nat) (l : List Nat) : Bool := nodupB l && ((List.range n).all l.contains && l.all fun k => Nat.blt k n)
def coverB (ops : Array Oper) (V : List Nat) (reps : List (List Nat)) : Bool :=
  let T := closR ops.toList []
  ((List.range ops.size).all fun i => (match ops[i]? with | some o => (dirs o).all fun k => Nat.blt k i | none => true) && (List.range i).all fun j => freeB T ops i j || (V.contains i && V.contains j)) &&
  (linOK T V reps (V.length + 1) V [] && (reps.all fun l => permB ops.size l && ordB T ops l)) && (flowsB .text ops && (flowsB .gc ops && flowsB .any ops))
theorem clos_ahead {σ : List Nat} (hn : σ.Nodup) (hs : ∀ s1 i s2, σ = s1 ++ i :: s2 → ∀ o, ops[i]? = some o → ∀ k, k ∈ dirs o → k ∉ s2) (hall : ∀ (i : Nat) (o : Oper), ops[i]? = some o → ∀ k, k ∈ dirs o → k ∈ σ) (hdir : ∀ (i : Nat) (o : Oper), ops[i]? = some o → ∀ k, k ∈ dirs o → k < i) :
    ∀ (n i : Nat), i < n → i ∈ σ → ∀ j, j ∈ (closR ops.toList []).getD i [] → ahead σ j i
  | 0, _, h, _, _, _ => by omega
  | n + 1, i, hi, him, j, hj => by
    obtain ⟨o, ho, h⟩ := closR_ok ops.toList ops.toList [] (by simp) (by intro i j h; simp [List.getD] at h) i j hj
    have ho' : ops[i]? = some o := by simpa using ho
    have direct : ∀ k, k ∈ dirs o → ahead σ k i := by
      intro k hk
      obtain ⟨s1, s2, he⟩ := List.append_of_mem him
      have h1 := hs s1 i s2 he o ho' k hk
      have h2 := hall i o ho' k hk
      rw [he] at h2
      refine ⟨s1, i :: s2, he, ?_, List.mem_cons_self ..⟩
      rcases List.mem_append.1 h2 with h2 | h2
      · exact h2
      · rcases List.mem_cons.1 h2 with h2 | h2
        · have := hdir i o ho' k hk
          omega
        · exact (h1 h2).elim
    rcases h with h | ⟨k, hk, h⟩
    · exact direct j h
    · have hki := hdir i o ho' k hk
      obtain ⟨p, q, he, h1, h2⟩ := direct k hk
      obtain ⟨p', q', he', h1', h2'⟩ := clos_ahead hn hs hall hdir n k (by omega) (hall i o ho' k hk) j h
      -- j ahead of k, k ahead of i
      refine ⟨p, q, he, ?_, h2⟩
      rw [he] at he'
      rcases List.append_eq_append_iff.1 he' with ⟨c, rfl, rfl⟩ | ⟨c, rfl, rfl⟩
      · rcases List.mem_append.1 h1' with h3 | h3
        · exact h3
        · exfalso
          rw [he] at hn
          have := (List.nodup_append.1 hn).2.2 k h1 k (List.mem_append_right _ h2')
          exact this rfl
      · exact List.mem_append_left _ h1'
theorem linOK_ok {T : List (List Nat)} {V : List Nat} {reps : List (List Nat)} : ∀ (f : Nat) (rem acc τ : List Nat), linOK T V reps f rem acc = true → τ.Perm rem → τ.Nodup → (∀ x y, ahead τ x y → (T.getD x []).contains y = false) → (∀ x, x ∈ τ → (T.getD x []).contains x = false) → ∃ l, l ∈ reps ∧ l.filter V.contains = acc.reverse ++ τ
  | 0, _, _, _, h, _, _, _, _ => by cases h
  | f + 1, rem, acc, τ, h, hp, hn, hT, hi => by
    unfold linOK at h
    cases τ with
    | nil =>
      have : rem = [] := hp.nil_eq.symm
      rw [this] at h
      simp only [List.any_eq_true, beq_iff_eq] at h
      obtain ⟨l, h1, h2⟩ := h
      exact ⟨l, h1, by simpa using h2⟩
    | cons i τ =>
      cases rem with
      | nil => exact (List.cons_ne_nil _ _ hp.eq_nil).elim
      | cons x rem =>
        simp only [List.all_eq_true, Bool.or_eq_true] at h
        have him : i ∈ x :: rem := hp.mem_iff.1 (List.mem_cons_self ..)
        rcases h i him with h | h
        · exfalso
          obtain ⟨j, hj, hc⟩ := List.any_eq_true.1 h
          rcases List.mem_cons.1 (hp.mem_iff.2 hj) with rfl | hj
          · rw [hi j (List.mem_cons_self ..)] at hc; cases hc
          · rw [hT i j (ahead_head hj)] at hc; cases hc
        · obtain ⟨l, h1, h2⟩ := linOK_ok f _ (i :: acc) τ h ((hp.trans (List.perm_cons_erase him)).cons_inv) (List.nodup_cons.1 hn).2 (fun x y hxy => hT x y (ahead_cons hxy)) (fun x hx => hi x (List.mem_cons_of_mem _ hx))
          exact ⟨l, h1, by rw [h2]; simp⟩
theorem ordB_ok {T : List (List Nat)} : ∀ {l : List Nat}, ordB T ops l = true → ∀ x y, ahead l x y → (T.getD x []).contains y = true → commJ ops x y = true
  | [], _, x, y, ⟨p, q, h, h1, _⟩, _ => by
    have := List.append_eq_nil_iff.1 h.symm
    rw [this.1] at h1
    cases h1
  | i :: r, ho, x, y, ⟨p, q, h, h1, h2⟩, hT => by
    unfold ordB at ho
    rw [Bool.and_eq_true, List.all_eq_true] at ho
    cases p with
    | nil => cases h1
    | cons k p =>
      rw [List.cons_append, List.cons.injEq] at h
      obtain ⟨rfl, rfl⟩ := h
      rcases List.mem_cons.1 h1 with rfl | h1
      · have := ho.1 y (List.mem_append_right _ h2)
        rw [hT] at this
        simpa using this
      · exact ordB_ok ho.2 x y ⟨p, q, rfl, h1, h2⟩ hT
theorem commJ_symm (x y : Nat) (h : commJ ops x y = true) : commJ ops y x = true := by
  unfold commJ at h ⊢
  cases hx : ops[x]? with
  | none => cases hy : ops[y]? <;> rfl
  | some o₁ =>
    cases hy : ops[y]? with
    | none => rfl
    | some o₂ =>
      rw [hx, hy] at h
      simp only [Bool.and_eq_true, commF] at h ⊢
      obtain ⟨⟨⟨⟨h1, h2⟩, h3⟩, h4⟩, h5⟩ := h
      refine ⟨⟨⟨⟨h2, h1⟩, h4⟩, h3⟩, ?_⟩
      cases h6 : opClass o₁.op <;> cases h7 : opClass o₂.op <;> simp_all [clsOK]
theorem filter_ahead {V l : List Nat} {x y : Nat} (h : ahead l x y) (hx : V.contains x = true) (hy : V.contains y = true) : ahead (l.filter V.contains) x y := by
  obtain ⟨p, q, rfl, h1, h2⟩ := h
  exact ⟨p.filter V.contains, q.filter V.contains, by rw [List.filter_append], List.mem_filter.2 ⟨h1, hx⟩, List.mem_filter.2 ⟨h2, hy⟩⟩
theorem ahead_asymm {l : List Nat} (hn : l.Nodup) {x y : Nat} (h : ahead l x y) (h' : ahead l y x) : False := by
  obtain ⟨p, q, he, h1, h2⟩ := h
  obtain ⟨p', q', he', h1', h2'⟩ := h'
  rw [he] at he'
  rw [he] at hn
  have hd := (List.nodup_append.1 hn).2.2
  rcases List.append_eq_append_iff.1 he' with ⟨c, rfl, rfl⟩ | ⟨c, rfl, rfl⟩
  · exact hd x h1 x (List.mem_append_right _ h2') rfl
  · exact hd y (List.mem_append_left _ h1') y h2 rfl
theorem ahead_total {l : List Nat} {x y : Nat} (hx : x ∈ l) (hy : y ∈ l) (hne : x ≠ y) : ahead l x y ∨ ahead l y x := by
  obtain ⟨p, q, rfl⟩ := List.append_of_mem hx
  rcases List.mem_append.1 hy with h | h
  · exact .inr ⟨p, x :: q, rfl, h, List.mem_cons_self ..⟩
  · rcases List.mem_cons.1 h with h | h
    · exact (hne h.symm).elim
    · exact .inl ⟨p ++ [x], q, by simp, by simp, h⟩
/-- Each order that the model may draw is spoken for. -/
theorem cover_ok {V : List Nat} {reps : List (List Nat)} (hc : coverB ops V reps = true) (hV : nodupB V = true ∧ V.all (fun k => Nat.blt k ops.size) = true) (mixed : Bool) (t : Nat) (h : ∀ l, l ∈ reps → okI P ops next l a w) : okI P ops next (Region.schedule mixed ops t) a w := by
  unfold coverB at hc
  simp only [Bool.and_eq_true, List.all_eq_true, List.mem_range] at hc
  obtain ⟨⟨hpair, hlin, hreps⟩, hfl⟩ := hc
  have hdir : ∀ (i : Nat) (o : Oper), ops[i]? = some o → ∀ k, k ∈ dirs o → k < i := by
    intro i o ho k hk
    have hi : i < ops.size := (Array.getElem?_eq_some_iff.1 ho).1
    have := (hpair i hi).1
    rw [ho] at this
    simp only [List.all_eq_true] at this
    exact Nat.le_of_ble_eq_true (this k hk)
  have hs := sched_of (ops := ops) (by simpa [Bool.and_eq_true] using hfl) hdir mixed t
  generalize Region.schedule mixed ops t = σ at hs
  have hσn : σ.Nodup := hs.perm.nodup_iff.2 List.nodup_range
  have hσm : ∀ i, i ∈ σ ↔ i < ops.size := fun i => by rw [hs.perm.mem_iff, List.mem_range]
  have hclos : ∀ i j, i ∈ σ → j ∈ (closR ops.toList []).getD i [] → ahead σ j i := fun i j hi hj =>
    clos_ahead hσn hs.dirs (fun i o ho k hk => (hσm k).2 (by have := hdir i o ho k hk; have := (Array.getElem?_eq_some_iff.1 ho).1; omega)) hdir (i + 1) i (by omega) hi j hj
  have hVn := nodupB_ok hV.1
  have hτ : (σ.filter V.contains).Perm V := by
    refine (List.perm_ext_iff_of_nodup (hσn.filter _) hVn).2 fun x => ?_
    rw [List.mem_filter, hσm]
    simp only [List.contains_eq_mem, decide_eq_true_eq]
    exact ⟨fun h => h.2, fun h => ⟨Nat.le_of_ble_eq_true (List.all_eq_true.1 hV.2 x h), h⟩⟩
  obtain ⟨l, hl, he⟩ := linOK_ok _ V [] (σ.filter V.contains) hlin hτ (hσn.filter _) (by
    intro x y hxy
    obtain ⟨p, q, e1, h1, h2⟩ := hxy
    have hx : x ∈ σ := (List.mem_filter.1 (e1 ▸ List.mem_append_left _ h1 : x ∈ σ.filter V.contains)).1
    have hy : y ∈ σ := (List.mem_filter.1 (e1 ▸ List.mem_append_right _ h2 : y ∈ σ.filter V.contains)).1
    have hxv : V.contains x = true := (List.mem_filter.1 (e1 ▸ List.mem_append_left _ h1 : x ∈ σ.filter V.contains)).2
    have hyv : V.contains y = true := (List.mem_filter.1 (e1 ▸ List.mem_append_right _ h2 : y ∈ σ.filter V.contains)).2
    rw [Bool.eq_false_iff]
    intro hcon
    have := hclos x y hx (by simpa using hcon)
    exact ahead_asymm (hσn.filter V.contains) ⟨p, q, e1, h1, h2⟩ (filter_ahead this hyv hxv)) (by
    intro x hx
    rw [Bool.eq_false_iff]
    intro hcon
    have hxs : x ∈ σ := (List.mem_filter.1 hx).1
    have := hclos x x hxs (by simpa using hcon)
    exact ahead_asymm hσn this this)
  simp only [List.reverse_nil, List.nil_append] at he
  have hlr := hreps l hl
  unfold permB at hlr
  simp only [Bool.and_eq_true, List.all_eq_true, List.mem_range, List.contains_eq_mem, decide_eq_true_eq] at hlr
  obtain ⟨⟨hln, hl1, hl2⟩, hord⟩ := hlr
  have hlp : l.Perm σ := by
    refine (List.perm_ext_iff_of_nodup (nodupB_ok hln) hσn).2 fun x => ?_
    rw [hσm]
    exact ⟨fun h => Nat.le_of_ble_eq_true (hl2 x h), fun h => hl1 x h⟩
  refine okI_orders σ l hσn hlp ?_ a w (h l hl)
  intro x y hxy
  have hxl : x ∈ l := by obtain ⟨p, q, rfl, h1, _⟩ := hxy; exact List.mem_append_left _ h1
  have hyl : y ∈ l := by obtain ⟨p, q, rfl, _, h1⟩ := hxy; exact List.mem_append_right _ h1
  have hne : x ≠ y := by rintro rfl; exact ahead_asymm (nodupB_ok hln) hxy hxy
  have hxn : x < ops.size := (hσm x).1 (hlp.mem_iff.1 hxl)
  have hyn : y < ops.size := (hσm y).1 (hlp.mem_iff.1 hyl)
  by_cases hcom : commJ ops x y = true
  · exact .inl hcom
  right
  have hfree : freeB (closR ops.toList []) ops x y = true ∨ (V.contains x = true ∧ V.contains y = true) := by
    rcases Nat.lt_trichotomy x y with hlt | heq | hgt
    · have := (hpair y hyn).2 x hlt
      simp only [Bool.or_eq_true, Bool.and_eq_true] at this
      rcases this with h1 | h1
      · left
        unfold freeB at h1 ⊢
        simp only [Bool.or_eq_true] at h1 ⊢
        rcases h1 with h1 | h1 | h1
        · exact .inl (commJ_symm _ _ h1)
        · exact .inr (.inr h1)
        · exact .inr (.inl h1)
      · exact .inr ⟨h1.2, h1.1⟩
    · exact (hne heq).elim
    · have := (hpair x hxn).2 y hgt
      simp only [Bool.or_eq_true, Bool.and_eq_true] at this
      exact this
  rcases hfree with hf | ⟨hvx, hvy⟩
  · unfold freeB at hf
    simp only [Bool.or_eq_true] at hf
    rcases hf with hf | hf | hf
    · exact (hcom hf).elim
    · exact (hcom (ordB_ok hord x y hxy hf)).elim
    · exact hclos y x ((hσm y).2 hyn) (by simpa using hf)
  · rcases ahead_total ((hσm x).2 hxn) ((hσm y).2 hyn) hne with h1 | h1
    · exact h1
    · exfalso
      have h2 := filter_ahead h1 hvy hvx
      have h3 := filter_ahead hxy hvx hvy
      rw [he] at h3
      exact ahead_asymm (hσn.filter V.contains) h2 h3
end
section
variable {ρ : Type} {P : Program} {E : Env} {orc : OrcO ρ}
theorem aopsIO_ok (ho : OrcOK E orc) {ops : Array Oper} {r : ρ} {K : Fr → Prop} : ∀ {l : List Nat} {A : Fr} {Ko : Fr → Option ρ}, aopsIO E orc ops l A Ko = some r → (∀ A, Ko A = some r → K A) → aopsI E ops l A K
  | [], _, _, h, hk => hk _ h
  | i :: l, A, Ko, h, hk => by
    unfold aopsIO at h
    unfold aopsI
    cases hi : ops[i]? with
    | none =>
      rw [hi] at h
      exact aopsIO_ok ho h hk
    | some o =>
      rw [hi] at h
      exact guardedO_ok ho h fun _ h => aopsIO_ok ho h hk
/-- A drawn region, answered for by some of its orders: all of them come to the same. -/
theorem region_cod (ho : OrcOK E orc) {id : Nat} {ops : Array Oper} {γ : Type} (F : γ → Fr) (dec : Fr → Option γ) (g : γ → (Fr → Option ρ) → Option ρ) (keep V : List Nat) (reps : List (List Nat))
    (hkeep : nodupB keep = true) (hV : nodupB V = true ∧ V.all (fun k => Nat.blt k ops.size) = true) (hcov : coverB ops V reps = true) (hdec : ∀ A c, dec A = some c → A = F c)
    (hreps : ∀ c Ko, (reps.map fun l => aopsIO E orc ops l (F c) fun A => Ko (restr keep A)) = reps.map fun _ => g c Ko) :
    ∀ (A : Fr) (Ko : Fr → Option ρ) (r : ρ) (K : Exit → Fr → Prop), (bnd (dec A) fun c => g c Ko) = some r → (∀ A, Ko A = some r → K .normal A) → Sem P E (.region id ops true) A K := by
  intro A Ko r K h hk r₀ C S a w Q hr hE hI hn
  obtain ⟨c, hc, h⟩ := bnd_some h
  have hA := hdec A c hc
  refine wpIn_region_draw fun t => okI_wpOpsIn (calm_all hr) (cover_ok hcov hV _ t fun l hl => ?_)
  have e : aopsIO E orc ops l (F c) (fun A => Ko (restr keep A)) = some r := by
    have h1 : aopsIO E orc ops l (F c) (fun A => Ko (restr keep A)) ∈ reps.map fun l => aopsIO E orc ops l (F c) fun A => Ko (restr keep A) := List.mem_map.2 ⟨l, hl, rfl⟩
    rw [hreps c Ko] at h1
    obtain ⟨_, _, h2⟩ := List.mem_map.1 h1
    rw [← h2]; exact h
  rw [← hA] at e
  refine aopsI_ok (K := fun A => Ko (restr keep A) = some r) hE hI.drew (aopsIO_ok ho e fun _ h => h) ?_
  intro A' a' w' S' hI' hS' hK'
  exact hn .normal _ a' w' S' (hI'.restr (nodupB_ok hkeep)) hS' (hk _ hK')
end
end Go.Gx
