/-
  L22: twice as many points: what the program lists and what the reference lists.
  Conditions: none; plain laws.
-/
import Derived.Test.YtjneiglpfdkehaaDoorL21
import Derived.Test.YtjneiglpfdkehaaDoorL7
namespace Go.Gl
open Go Go.Gx Go.Gm
section
variable {ρ : Type}
theorem foldO_grow {α σ : Type} {F : α → σ → (σ → Option ρ) → Option ρ} {k : σ → Option ρ} (e : List (List Int) → σ) (g : α → List (List Int)) (c : Nat) : ∀ (l : List α) (s : List (List Int)), (∀ a, a ∈ l → (g a).length ≤ c) → s.length + c * l.length < 2 ^ 40 →
    (∀ a s nx, a ∈ l → s.length + c < 2 ^ 40 → F a (e s) nx = nx (e (s ++ g a))) → foldO F k l (e s) = k (e (s ++ l.flatMap g))
  | [], s, _, _, _ => by simp [foldO]
  | a :: l, s, hg, hs, hF => by
    rw [List.length_cons, Nat.mul_add, Nat.mul_one] at hs
    have h1 := hg a (List.mem_cons_self ..)
    rw [foldO_cons, hF a s _ (List.mem_cons_self ..) (by omega), foldO_grow e g c l (s ++ g a) (fun b hb => hg b (List.mem_cons_of_mem _ hb)) (by rw [List.length_append]; omega) (fun b s nx hb => hF b s nx (List.mem_cons_of_mem _ hb)), List.flatMap_cons, List.append_assoc]
theorem iter_grow {α τ : Type} {step : τ → (τ → Option ρ) → Option ρ} (l : List α) (e : Nat → List (List Int) → τ) (g : α → List (List Int)) (c : Nat) (k : List (List Int) → Option ρ) (hg : ∀ a, a ∈ l → (g a).length ≤ c)
    (hF : ∀ i s nx (h : i < l.length), s.length + c < 2 ^ 40 → step (e i s) nx = nx (e (i + 1) (s ++ g l[i]))) (hk : ∀ s nx, step (e l.length s) nx = k s) :
    ∀ (n i : Nat) (s : List (List Int)), i ≤ l.length → l.length < i + n → s.length + c * (l.length - i) < 2 ^ 40 → iterM step n (e i s) = k (s ++ (l.drop i).flatMap g)
  | 0, i, s, h, hn, _ => by omega
  | n + 1, i, s, h, hn, hs => by
    rw [iterM_succ]
    rcases Nat.lt_or_ge i l.length with hi | hi
    · have hc : c * (l.length - i) = c * (l.length - (i + 1)) + c := by rw [show l.length - i = l.length - (i + 1) + 1 by omega, Nat.mul_add, Nat.mul_one]
      have h1 := hg l[i] (List.getElem_mem hi)
      rw [hF i s _ hi (by omega), iter_grow l e g c k hg hF hk n (i + 1) (s ++ g l[i]) hi (by omega) (by rw [List.length_append]; omega), List.drop_eq_getElem_cons hi, List.flatMap_cons, List.append_assoc]
    · have : i = l.length := by omega
      subst this
      rw [hk, List.drop_length, List.flatMap_nil, List.append_nil]
theorem range_grow {τ : Type} {step : τ → (τ → Option ρ) → Option ρ} (b : Nat) (e : Nat → List (List Int) → τ) (g : Nat → List (List Int)) (c : Nat) (k : List (List Int) → Option ρ) (hg : ∀ a, a < b → (g a).length ≤ c)
    (hF : ∀ i s nx, i < b → s.length + c < 2 ^ 40 → step (e i s) nx = nx (e (i + 1) (s ++ g i))) (hk : ∀ s nx, step (e b s) nx = k s) (n : Nat) (s : List (List Int)) (hn : b < n) (hs : s.length + c * b < 2 ^ 40) : iterM step n (e 0 s) = k (s ++ (List.range b).flatMap g) := by
  have := iter_grow (ρ := ρ) (step := step) (List.range b) e g c k (fun a ha => hg a (List.mem_range.1 ha)) (fun i s nx h hs => by
    rw [List.getElem_range]
    exact hF i s nx (by simpa using h) hs) (by rw [List.length_range]; exact hk) n 0 s (by omega) (by rw [List.length_range]; omega) (by rw [List.length_range]; simpa using hs)
  simpa using this
def u3 (b : List Int) (i : Nat) : Int := b.getD (i % 3) 0
def rD0 (p : Int) (x : Nat) : List Int := [x, x + p, 2 * p]
def rD (p : Int) (b : List Int) (i : Nat) : List Int := [u3 b i, u3 b (i + 1) + p, u3 b (i + 2) + p]
theorem db_l9 {n p : Nat} {t1 t2 : Int} {l1 l2 : List (List Int)} {L : List (List Int)} {v : Int} {k0 : List (List Int) → Int → Option ρ} (hp : p ≤ 40) (hn : p < n) (hL : L.length ≤ 2 ^ 20) :
    triple_Double_l9 n t1 l1 t2 l2 p p L v 0 k0 = k0 (L ++ (List.range p).flatMap fun x => [sortI (rD0 p x)]) v := by
  unfold triple_Double_l9
  have h1 := iter_range (σ := List (List Int) × Int) (τ := (List (List Int)) × Int × Int) (step := fun s nx => triple_Double_s9 n t1 l1 t2 l2 p p s.1 s.2.1 s.2.2 (fun a0 a1 a2 => nx (a0, a1, a2)) k0) p (fun i s => (s.1, s.2, (i : Int)))
    (fun i s nx => bnd (triple_lister_add n s.1 s.2 i (i + p) (2 * p)) fun z => nx (z.1, z.2)) (fun s => k0 s.1 s.2) (fun i s nx hi => by
      dsimp only
      unfold triple_Double_s9
      rw [brO_pos (by omega), w64s (by omega), w64 (by omega), w64 (by omega)])
    (fun s nx => by
      dsimp only
      unfold triple_Double_s9
      rw [brO_neg (by omega)]) n 0 (L, v) (by omega) (by omega)
  dsimp only at h1
  rw [show ((0 : Nat) : Int) = 0 from rfl] at h1
  rw [h1, Nat.sub_zero, ← List.range_eq_range']
  rw [foldO_grow (fun L => (L, v)) (fun x => [sortI (rD0 p x)]) 1 _ L (by simp) (by rw [List.length_range]; omega) (fun a s nx _ hs => by
    dsimp only
    rw [add_eq hs, bnd_sm]
    rfl)]
theorem db_l18 {n p : Nat} {t2 t47 t48 : Int} {l2 l : List (List Int)} {b : List Int} {L : List (List Int)} {v : Int} {k0 : List (List Int) → Int → Option ρ} (hb : tri p b) (hp : p ≤ 40) (hn : 3 < n) (hL : L.length + 3 < 2 ^ 40) :
    triple_Double_l18 n t2 l2 p b l t47 t48 b (b.length : Int) L v 0 k0 = k0 (L ++ [sortI (rD p b 0), sortI (rD p b 1), sortI (rD p b 2)]) v := by
  obtain ⟨x, y, z, rfl, hx, hxy, hyz, hz⟩ := hb
  unfold triple_Double_l18
  have h1 := iter_range (σ := List (List Int) × Int) (τ := (List (List Int)) × Int × Int) (step := fun s nx => triple_Double_s18 n t2 l2 p [x, y, z] l t47 t48 [x, y, z] (([x, y, z] : List Int).length : Int) s.1 s.2.1 s.2.2 (fun a0 a1 a2 => nx (a0, a1, a2)) k0) 3 (fun i s => (s.1, s.2, (i : Int)))
    (fun i s nx => bnd (triple_lister_add n s.1 s.2 (u3 [x, y, z] i) (u3 [x, y, z] (i + 1) + p) (u3 [x, y, z] (i + 2) + p)) fun z => nx (z.1, z.2)) (fun s => k0 s.1 s.2) (fun i s nx hi => by
      dsimp only
      unfold triple_Double_s18
      have e1 : IntKind.i64.wrap ((i : Int) + 1) = ((i + 1 : Nat) : Int) := w64s (by omega)
      have e2 : IntKind.i64.wrap ((i : Int) + 2) = ((i + 2 : Nat) : Int) := by rw [w64 (by omega)]; rfl
      rw [e1, e2]
      have hl : ([x, y, z] : List Int).length = 3 := rfl
      rw [hl, brO_pos (by omega), chk_pos (by omega), chk_pos (by omega)]
      rcases (show i = 0 ∨ i = 1 ∨ i = 2 by omega) with rfl | rfl | rfl
      · show bnd (some x) _ = _
        rw [bnd_sm]
        show chk ((0 : Int) ≤ 1) (chk ((1 : Int) < 3) (bnd (some y) fun b11' => chk ((0 : Int) ≤ 2) (chk ((2 : Int) < 3) (bnd (some z) fun b12' => _)))) = _
        rw [chk_pos (by omega), chk_pos (by omega), bnd_sm, chk_pos (by omega), chk_pos (by omega), bnd_sm, w64 (by omega), w64 (by omega)]
        rfl
      · show bnd (some y) _ = _
        rw [bnd_sm]
        show chk ((0 : Int) ≤ 2) (chk ((2 : Int) < 3) (bnd (some z) fun b11' => chk ((0 : Int) ≤ 0) (chk ((0 : Int) < 3) (bnd (some x) fun b12' => _)))) = _
        rw [chk_pos (by omega), chk_pos (by omega), bnd_sm, chk_pos (by omega), chk_pos (by omega), bnd_sm, w64 (by omega), w64 (by omega)]
        rfl
      · show bnd (some z) _ = _
        rw [bnd_sm]
        show chk ((0 : Int) ≤ 0) (chk ((0 : Int) < 3) (bnd (some x) fun b11' => chk ((0 : Int) ≤ 1) (chk ((1 : Int) < 3) (bnd (some y) fun b12' => _)))) = _
        rw [chk_pos (by omega), chk_pos (by omega), bnd_sm, chk_pos (by omega), chk_pos (by omega), bnd_sm, w64 (by omega), w64 (by omega)]
        rfl)
    (fun s nx => by
      dsimp only
      unfold triple_Double_s18
      rw [brO_neg (by simp)]) n 0 (L, v) (by omega) (by omega)
  dsimp only at h1
  rw [show ((0 : Nat) : Int) = 0 from rfl] at h1
  rw [h1]
  show bnd (triple_lister_add n L v (u3 [x, y, z] 0) (u3 [x, y, z] (0 + 1) + p) (u3 [x, y, z] (0 + 2) + p)) (fun a => bnd (triple_lister_add n a.1 a.2 (u3 [x, y, z] 1) (u3 [x, y, z] (1 + 1) + p) (u3 [x, y, z] (1 + 2) + p)) fun a => bnd (triple_lister_add n a.1 a.2 (u3 [x, y, z] 2) (u3 [x, y, z] (2 + 1) + p) (u3 [x, y, z] (2 + 2) + p)) fun a => k0 a.1 a.2) = _
  rw [add_eq (by omega), bnd_sm, add_eq (by simp; omega), bnd_sm, add_eq (by simp; omega), bnd_sm]
  simp [rD]
def rB (p : Int) (b : List Int) : List (List Int) := [sortI b, sortI (rD p b 0), sortI (rD p b 1), sortI (rD p b 2)]
theorem db_l14 {n p : Nat} {t2 : Int} {l2 l : List (List Int)} {L : List (List Int)} {v : Int} {k0 : List (List Int) → Int → Option ρ} (ht : ∀ b, b ∈ l → tri p b) (hl : l.length ≤ 200) (hp : p ≤ 40) (hn : 200 < n) (hL : L.length ≤ 2 ^ 20) :
    triple_Double_l14 n t2 l2 p l (l.length : Int) L v 0 k0 = k0 (L ++ l.flatMap (rB p)) v := by
  unfold triple_Double_l14
  have h1 := iter_grow (step := fun s nx => triple_Double_s14 n t2 l2 p l (l.length : Int) s.1 s.2.1 s.2.2 (fun a0 a1 a2 => nx (a0, a1, a2)) k0) l (fun i L => (L, v, (i : Int))) (rB p) 4 (fun L => k0 L v) (fun a _ => by simp [rB])
    (fun i s nx hi hs => by
      dsimp only
      unfold triple_Double_s14
      have hb := ht _ (List.getElem_mem hi)
      rw [brO_pos (by omega), chk_pos (by omega), chk_pos (by omega), Int.toNat_natCast, bnd_get hi]
      obtain ⟨x, y, z, he, h1, h2, h3, h4⟩ := id hb
      have hlen : l[i].length = 3 := by rw [he]; rfl
      have g0 : l[i][0]? = some x := by rw [he]; rfl
      have g1 : l[i][1]? = some y := by rw [he]; rfl
      have g2 : l[i][2]? = some z := by rw [he]; rfl
      rw [chk_pos (by omega), chk_pos (by omega), g0, bnd_sm, chk_pos (by omega), chk_pos (by omega), g1, bnd_sm, chk_pos (by omega), chk_pos (by omega), g2, bnd_sm, add_eq (by omega), bnd_sm, db_l18 hb hp (by omega) (by simp; omega), w64s (by omega)]
      rw [List.append_assoc, show sortI [x, y, z] = sortI l[i] by rw [he]]
      rfl)
    (fun s nx => by
      dsimp only
      unfold triple_Double_s14
      rw [brO_neg (by omega)]) n 0 L (by omega) (by omega) (by omega)
  exact h1
def DL (p : Nat) (l : List (List Int)) : List (List Int) := ((List.range p).flatMap fun x => [sortI (rD0 p x)]) ++ l.flatMap (rB p)
theorem flat_len' {α : Type} {g : α → List (List Int)} {c : Nat} : ∀ {l : List α}, (∀ a, a ∈ l → (g a).length ≤ c) → (l.flatMap g).length ≤ c * l.length
  | [], _ => by simp
  | a :: l, h => by
    have h1 := h a (List.mem_cons_self ..)
    have h2 := flat_len' (l := l) fun b hb => h b (List.mem_cons_of_mem _ hb)
    rw [List.flatMap_cons, List.length_append, List.length_cons, Nat.mul_add]
    omega
theorem DL_len {p : Nat} {l : List (List Int)} (hp : p ≤ 40) (hl : l.length ≤ 200) : (DL p l).length ≤ 1000 := by
  have h1 := flat_len' (g := fun x : Nat => [sortI (rD0 p x)]) (c := 1) (l := List.range p) (fun _ _ => by simp)
  have h2 := flat_len' (g := rB p) (c := 4) (l := l) (fun _ _ => by simp [rB])
  rw [List.length_range] at h1
  unfold DL
  rw [List.length_append]
  omega
theorem sortI_len (l : List Int) : (sortI l).length = l.length := List.length_mergeSort _
theorem tri_len {p : Int} {b : List Int} (h : tri p b) : b.length = 3 := by obtain ⟨x, y, z, rfl, _⟩ := h; rfl
theorem DL_rows {p : Nat} {l : List (List Int)} (ht : ∀ b, b ∈ l → tri p b) : ∀ b, b ∈ DL p l → b.length = 3 := by
  intro b hb
  unfold DL at hb
  rcases List.mem_append.1 hb with hb | hb
  · obtain ⟨x, _, hb⟩ := List.mem_flatMap.1 hb
    rw [List.mem_singleton.1 hb, sortI_len]
    rfl
  · obtain ⟨c, hc, hb⟩ := List.mem_flatMap.1 hb
    have h3 := tri_len (ht c hc)
    simp only [rB, List.mem_cons, List.not_mem_nil, or_false] at hb
    rcases hb with rfl | rfl | rfl | rfl <;> rw [sortI_len] <;> first | exact h3 | rfl
theorem Check_eq' {n : Nat} {p : Int} {l : List (List Int)} (h : okB n l) (hn : 40 < n) : triple_Check n p l = some (tfault p l) := by
  obtain ⟨T, h1, h2, _⟩ := open_eq h hn (p := p)
  unfold triple_Check
  rw [h1, bnd_sm, chk_pos rfl, chk_pos h2, chk_pos List.length_replicate]
theorem tf_nat {p : Int} {l : List (List Int)} (h : tfault p l = 0) : ∃ q : Nat, p = q ∧ 1 ≤ q ∧ q ≤ 40 ∧ l.length ≤ 200 ∧ (∀ b, b ∈ l → tri q b) ∧ good q l = true := by
  have h' := h
  unfold tfault at h'
  split at h'
  · rename_i hd
    split at h'
    · rename_i h3
      split at h'
      · rename_i hg
        obtain ⟨h4, h5, h6⟩ := dck_zero hd
        refine ⟨p.toNat, by omega, by omega, by omega, h6, ?_, hg⟩
        have := tri_of hd h3
        rwa [show ((p.toNat : Nat) : Int) = p by omega]
      · simp at h'
    · simp at h'
  · rename_i hd; exact absurd h' hd
/-- What the program makes of twice as many points. -/
def dbl (p : Int) (l : List (List Int)) : Int × List (List Int) × Int := if tfault p l = 0 then (if 2 * p + 1 > 33 then (0, [], 3) else (2 * p + 1, sortL (DL p.toNat l), 0)) else (0, [], tfault p l)
theorem Double_eq {n : Nat} {p : Int} {l : List (List Int)} (h : okB n l) (hn : 2000 < n) : triple_Double n p l = some (dbl p l) := by
  unfold triple_Double dbl
  rw [Check_eq' h (by omega), bnd_sm]
  by_cases hf : tfault p l = 0
  · rw [hf, if_pos rfl]
    obtain ⟨q, rfl, h1, h2, h3, ht, _⟩ := tf_nat hf
    rw [show ((0 : Int) != 0) = false from rfl, brO_ff]
    have e : IntKind.i64.wrap (IntKind.i64.wrap (2 * (q : Int)) + 1) = 2 * q + 1 := by rw [w64 (x := 2 * (q : Int)) (by omega), w64 (by omega)]
    rw [e]
    by_cases hq : 2 * (q : Int) + 1 > 33
    · rw [brO_pos hq, if_pos hq]
    · rw [brO_neg hq, if_neg hq, db_l9 h2 (by omega) (by simp)]
      have hd : (([] : List (List Int)) ++ (List.range q).flatMap fun x => [sortI (rD0 q x)]).length ≤ 2 ^ 20 := by
        have h1 := flat_len' (g := fun x : Nat => [sortI (rD0 q x)]) (c := 1) (l := List.range q) (fun _ _ => by simp)
        rw [List.length_range] at h1
        rw [List.nil_append]
        omega
      rw [db_l14 ht h3 h2 (by omega) hd, List.nil_append]
      have := DL_len h2 h3
      rw [show ((List.range q).flatMap fun x => [sortI (rD0 q x)]) ++ l.flatMap (rB q) = DL q l from rfl, design_eq (by omega) (fun b hb => by have := DL_rows ht b hb; omega), bnd_sm, Int.toNat_natCast]
  · rw [show (tfault p l != 0) = true by simp [hf], brO_tt, if_neg hf]
end
end Go.Gl
