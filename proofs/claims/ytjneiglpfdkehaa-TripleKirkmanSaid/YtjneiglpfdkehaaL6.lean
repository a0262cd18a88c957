/-
  L6: a system of triples is opened just where each two points lie together in one block.
  Conditions: none; plain laws.
-/
import Derived.Test.YtjneiglpfdkehaaL4
import Derived.Test.YtjneiglpfdkehaaL5
namespace Go.Gl
open Go Go.Gx Go.Gm
/-! ### The table -/
def inR (x : Int) : Prop := 0 ≤ x ∧ x < 40
theorem ix_inj {p q u v : Int} (hp : inR p) (hq : inR q) (hu : inR u) (hv : inR v) (h : ix p q = ix u v) : p = u ∧ q = v := by
  unfold ix at h
  unfold inR at *
  omega
theorem put_get {p q r : Int} {T T' : List Int} (hp : inR p) (hq : inR q) (hT : T.length = 1600) (h : putT p q r T = some T') {u v : Int} (hu : inR u) (hv : inR v) :
    T'[ix u v]? = if (u = p ∧ v = q) ∨ (u = q ∧ v = p) then some r else T[ix u v]? := by
  unfold putT at h
  split at h
  · split at h
    · cases h
    · cases h
      have l1 := ix_lt hp hq
      have l2 := ix_lt hq hp
      rw [List.getElem?_set, List.length_set, List.getElem?_set, hT]
      by_cases h1 : ix q p = ix u v
      · obtain ⟨e1, e2⟩ := ix_inj hq hp hu hv h1
        rw [if_pos h1, if_pos (by omega), if_pos (.inr ⟨e1.symm, e2.symm⟩)]
      · by_cases h2 : ix p q = ix u v
        · obtain ⟨e1, e2⟩ := ix_inj hp hq hu hv h2
          rw [if_neg h1, if_pos h2, if_pos (by omega), if_pos (.inl ⟨e1.symm, e2.symm⟩)]
        · rw [if_neg h1, if_neg h2, if_neg]
          rintro (⟨rfl, rfl⟩ | ⟨rfl, rfl⟩)
          · exact h2 rfl
          · exact h1 rfl
  · cases h
theorem put_neg {p q r v : Int} {T : List Int} (h : T[ix p q]? = some v) (hv : v < 0) : ∃ T', putT p q r T = some T' := by
  unfold putT
  rw [h]
  simp only
  rw [if_neg (by omega)]
  exact ⟨_, rfl⟩
theorem put_pos {p q r v : Int} {T : List Int} (h : T[ix p q]? = some v) (hv : 0 ≤ v) : putT p q r T = none := by
  unfold putT
  rw [h]
  simp only
  rw [if_pos hv]
/-- Both points lie in a block. -/
def two (u v : Int) (b : List Int) : Bool := decide (u ∈ b) && decide (v ∈ b)
def sum3 (b : List Int) : Int := b.foldr (· + ·) 0
theorem two_iff {u v : Int} {b : List Int} : two u v b = true ↔ u ∈ b ∧ v ∈ b := by simp [two]
/-- What the table holds of two points, of the blocks so far. -/
def valS (l : List (List Int)) (u v : Int) : Int := match l.find? (two u v) with
  | some b => sum3 b - u - v
  | none => -1
structure Rep (l : List (List Int)) (T : List Int) : Prop where
  len : T.length = 1600
  get : ∀ u v, inR u → inR v → u ≠ v → T[ix u v]? = some (valS l u v)
theorem tri_third {p : Int} {b : List Int} (hb : tri p b) {u v : Int} (hu : u ∈ b) (hv : v ∈ b) (huv : u ≠ v) : sum3 b - u - v ∈ b ∧ sum3 b - u - v ≠ u ∧ sum3 b - u - v ≠ v ∧ 0 ≤ sum3 b - u - v := by
  obtain ⟨x, y, z, rfl, h0, h1, h2, h3⟩ := hb
  simp only [List.mem_cons, List.not_mem_nil, or_false] at hu hv
  have hs : sum3 [x, y, z] = x + (y + (z + 0)) := rfl
  rw [hs]
  simp only [List.mem_cons, List.not_mem_nil, or_false]
  omega
theorem tri_inR {p : Int} {b : List Int} (hb : tri p b) (hp : p ≤ 40) {u : Int} (hu : u ∈ b) : inR u := by
  obtain ⟨x, y, z, rfl, h0, h1, h2, h3⟩ := hb
  simp only [List.mem_cons, List.not_mem_nil, or_false] at hu
  unfold inR
  omega
theorem valS_neg {l : List (List Int)} {u v : Int} (h : ∀ b, b ∈ l → ¬ (u ∈ b ∧ v ∈ b)) : valS l u v = -1 := by
  unfold valS
  have : l.find? (two u v) = none := by
    rw [List.find?_eq_none]
    intro b hb h'
    exact h b hb (two_iff.1 h')
  rw [this]
theorem valS_pos {l : List (List Int)} {u v : Int} (ht : ∀ b, b ∈ l → tri 40 b) (huv : u ≠ v) (h : ∃ b, b ∈ l ∧ u ∈ b ∧ v ∈ b) : 0 ≤ valS l u v ∧ ∃ b, b ∈ l ∧ u ∈ b ∧ v ∈ b ∧ valS l u v = sum3 b - u - v := by
  unfold valS
  cases hf : l.find? (two u v) with
  | none =>
    rw [List.find?_eq_none] at hf
    obtain ⟨b, hb, h'⟩ := h
    exact (hf b hb (two_iff.2 h')).elim
  | some b =>
    have hb := List.mem_of_find?_eq_some hf
    have h2 := two_iff.1 (List.find?_some hf)
    have := tri_third (ht b hb) h2.1 h2.2 huv
    exact ⟨this.2.2.2, b, hb, h2.1, h2.2, rfl⟩
theorem valS_app {l : List (List Int)} {b : List Int} {u v : Int} : valS (l ++ [b]) u v = if (l.find? (two u v)).isSome = true then valS l u v else if two u v b = true then sum3 b - u - v else -1 := by
  unfold valS
  rw [List.find?_append]
  cases hf : l.find? (two u v) with
  | some c => simp
  | none =>
    simp only [Option.isSome_none, Bool.false_eq_true, if_false, Option.none_or, List.find?_cons, List.find?_nil]
    cases two u v b <;> rfl
def share2 (b c : List Int) : Prop := ∃ u v, u ≠ v ∧ u ∈ b ∧ v ∈ b ∧ u ∈ c ∧ v ∈ c
theorem block_ok {l : List (List Int)} {T b : List Int} (hR : Rep l T) (ht : ∀ c, c ∈ l → tri 40 c) (hb : tri 40 b) :
    ((∀ c, c ∈ l → ¬ share2 b c) → ∃ T', blockT b T = some T' ∧ Rep (l ++ [b]) T') ∧ ((∃ c, c ∈ l ∧ share2 b c) → blockT b T = none) := by
  have hbt := hb
  obtain ⟨x, y, z, rfl, h0, h1, h2, h3⟩ := hb
  have rx : inR x := ⟨h0, by omega⟩
  have ry : inR y := ⟨by omega, by omega⟩
  have rz : inR z := ⟨by omega, by omega⟩
  have gxy := hR.get x y rx ry (by omega)
  have gyz := hR.get y z ry rz (by omega)
  have gzx := hR.get z x rz rx (by omega)
  have step1 : ∀ T1, putT x y z T = some T1 → T1.length = 1600 ∧ T1[ix y z]? = some (valS l y z) ∧ T1[ix z x]? = some (valS l z x) := by
    intro T1 e1
    have k := putT_len e1
    refine ⟨by rw [k]; exact hR.len, ?_, ?_⟩
    · rw [put_get rx ry hR.len e1 ry rz, if_neg (by omega), gyz]
    · rw [put_get rx ry hR.len e1 rz rx, if_neg (by omega), gzx]
  have step2 : ∀ T1 T2, putT x y z T = some T1 → putT y z x T1 = some T2 → T2.length = 1600 ∧ T2[ix z x]? = some (valS l z x) := by
    intro T1 T2 e1 e2
    obtain ⟨k1, k2, k3⟩ := step1 T1 e1
    have k := putT_len e2
    refine ⟨by rw [k]; exact k1, ?_⟩
    rw [put_get ry rz k1 e2 rz rx, if_neg (by omega), k3]
  constructor
  · intro hs
    have free : ∀ u v, u ∈ [x, y, z] → v ∈ [x, y, z] → u ≠ v → ∀ c, c ∈ l → ¬ (u ∈ c ∧ v ∈ c) := fun u v hu hv huv c hc h => hs c hc ⟨u, v, huv, hu, hv, h.1, h.2⟩
    have vxy : valS l x y = -1 := valS_neg (free x y (by simp) (by simp) (by omega))
    have vyz : valS l y z = -1 := valS_neg (free y z (by simp) (by simp) (by omega))
    have vzx : valS l z x = -1 := valS_neg (free z x (by simp) (by simp) (by omega))
    rw [vxy] at gxy
    obtain ⟨T1, e1⟩ := put_neg (r := z) gxy (by omega)
    obtain ⟨k1, k2, k3⟩ := step1 T1 e1
    rw [vyz] at k2
    obtain ⟨T2, e2⟩ := put_neg (r := x) k2 (by omega)
    obtain ⟨k4, k5⟩ := step2 T1 T2 e1 e2
    rw [vzx] at k5
    obtain ⟨T3, e3⟩ := put_neg (r := y) k5 (by omega)
    have hbl : blockT [x, y, z] T = some T3 := by unfold blockT; simp only [e1, e2, e3]
    refine ⟨T3, hbl, by rw [blockT_len hbl]; exact hR.len, ?_⟩
    intro u v hu hv huv
    rw [put_get rz rx k4 e3 hu hv, put_get ry rz k1 e2 hu hv, put_get rx ry hR.len e1 hu hv, valS_app]
    have hs3 : sum3 [x, y, z] = x + (y + (z + 0)) := rfl
    by_cases hin : u ∈ [x, y, z] ∧ v ∈ [x, y, z]
    · have hno : l.find? (two u v) = none := by
        rw [List.find?_eq_none]
        intro c hc h'
        exact free u v hin.1 hin.2 huv c hc (two_iff.1 h')
      have h2 : two u v [x, y, z] = true := two_iff.2 hin
      simp only [hno, Option.isSome_none, Bool.false_eq_true, if_false, h2, if_true, hs3]
      obtain ⟨hu', hv'⟩ := hin
      simp only [List.mem_cons, List.not_mem_nil, or_false] at hu' hv'
      by_cases c1 : (u = z ∧ v = x) ∨ (u = x ∧ v = z)
      · rw [if_pos c1]; congr 1; omega
      · rw [if_neg c1]
        by_cases c2 : (u = y ∧ v = z) ∨ (u = z ∧ v = y)
        · rw [if_pos c2]; congr 1; omega
        · rw [if_neg c2]
          have c3 : (u = x ∧ v = y) ∨ (u = y ∧ v = x) := by omega
          rw [if_pos c3]; congr 1; omega
    · have h2 : two u v [x, y, z] = false := by
        cases h : two u v [x, y, z] with
        | false => rfl
        | true => exact (hin (two_iff.1 h)).elim
      have n1 : ¬ ((u = z ∧ v = x) ∨ (u = x ∧ v = z)) := by
        rintro (⟨rfl, rfl⟩ | ⟨rfl, rfl⟩) <;> exact hin ⟨by simp, by simp⟩
      have n2 : ¬ ((u = y ∧ v = z) ∨ (u = z ∧ v = y)) := by
        rintro (⟨rfl, rfl⟩ | ⟨rfl, rfl⟩) <;> exact hin ⟨by simp, by simp⟩
      have n3 : ¬ ((u = x ∧ v = y) ∨ (u = y ∧ v = x)) := by
        rintro (⟨rfl, rfl⟩ | ⟨rfl, rfl⟩) <;> exact hin ⟨by simp, by simp⟩
      rw [if_neg n1, if_neg n2, if_neg n3, hR.get u v hu hv huv, h2]
      simp only [Bool.false_eq_true, if_false]
      split
      · rfl
      · rename_i hno
        unfold valS
        cases hf : l.find? (two u v) with
        | none => rfl
        | some c => rw [hf] at hno; simp at hno
  · rintro ⟨c, hc, u, v, huv, hu, hv, hcu, hcv⟩
    unfold blockT
    simp only
    cases e1 : putT x y z T with
    | none => rfl
    | some T1 =>
      obtain ⟨k1, k2, k3⟩ := step1 T1 e1
      simp only
      cases e2 : putT y z x T1 with
      | none => rfl
      | some T2 =>
        obtain ⟨k4, k5⟩ := step2 T1 T2 e1 e2
        simp only
        have pos : ∀ a d, a ≠ d → a ∈ c → d ∈ c → 0 ≤ valS l a d := fun a d had ha hd => (valS_pos ht had ⟨c, hc, ha, hd⟩).1
        simp only [List.mem_cons, List.not_mem_nil, or_false] at hu hv
        have hxy : ¬ (x ∈ c ∧ y ∈ c) := fun h => by
          have := put_pos (r := z) gxy (pos x y (by omega) h.1 h.2)
          rw [this] at e1; cases e1
        have hyz : ¬ (y ∈ c ∧ z ∈ c) := fun h => by
          have := put_pos (r := x) k2 (pos y z (by omega) h.1 h.2)
          rw [this] at e2; cases e2
        have hzx : z ∈ c ∧ x ∈ c := by
          rcases hu with rfl | rfl | rfl <;> rcases hv with rfl | rfl | rfl
          · exact (huv rfl).elim
          · exact (hxy ⟨hcu, hcv⟩).elim
          · exact ⟨hcv, hcu⟩
          · exact (hxy ⟨hcv, hcu⟩).elim
          · exact (huv rfl).elim
          · exact (hyz ⟨hcu, hcv⟩).elim
          · exact ⟨hcu, hcv⟩
          · exact (hyz ⟨hcv, hcu⟩).elim
          · exact (huv rfl).elim
        exact put_pos k5 (pos z x (by omega) hzx.1 hzx.2)
/-- No two blocks share two points. -/
def NC : List (List Int) → List (List Int) → Prop
  | _, [] => True
  | s, b :: l => (∀ c, c ∈ s → ¬ share2 b c) ∧ NC (s ++ [b]) l
theorem thirdT_ok : ∀ (l s : List (List Int)) (T : List Int), Rep s T → (∀ c, c ∈ s ++ l → tri 40 c) → (NC s l → ∃ T', thirdT l T = some T' ∧ Rep (s ++ l) T') ∧ (¬ NC s l → thirdT l T = none)
  | [], s, T, hR, _ => ⟨fun _ => ⟨T, rfl, by simpa using hR⟩, fun h => (h trivial).elim⟩
  | b :: l, s, T, hR, ht => by
    obtain ⟨h1, h2⟩ := block_ok hR (fun c hc => ht c (by simp [hc])) (ht b (by simp))
    have e : s ++ b :: l = (s ++ [b]) ++ l := by simp
    constructor
    · rintro ⟨hs, hn⟩
      obtain ⟨T1, e1, hR1⟩ := h1 hs
      obtain ⟨T2, e2, hR2⟩ := (thirdT_ok l (s ++ [b]) T1 hR1 (fun c hc => ht c (by rw [e]; exact hc))).1 hn
      refine ⟨T2, ?_, by rw [e]; exact hR2⟩
      unfold thirdT
      rw [e1]
      exact e2
    · intro hn
      unfold thirdT
      by_cases hs : ∀ c, c ∈ s → ¬ share2 b c
      · obtain ⟨T1, e1, hR1⟩ := h1 hs
        rw [e1]
        exact (thirdT_ok l (s ++ [b]) T1 hR1 (fun c hc => ht c (by rw [e]; exact hc))).2 fun h => hn ⟨hs, h⟩
      · have : ∃ c, c ∈ s ∧ share2 b c := Classical.byContradiction fun h => hs fun c hc hsh => h ⟨c, hc, hsh⟩
        rw [h2 this]
theorem rep_none : Rep [] none0 := ⟨none0_len, fun u v hu hv _ => none0_get (ix_lt hu hv)⟩
end Go.Gl
