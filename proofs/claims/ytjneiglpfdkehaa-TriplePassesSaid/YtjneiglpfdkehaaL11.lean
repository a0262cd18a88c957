/-
  L11: the law of Pasch's passes.
  Conditions: none; plain laws.
-/
import Derived.Test.YtjneiglpfdkehaaL10
namespace Go.Gl
open Go Go.Gx Go.Gm
/-! ### Lists, from the end -/
theorem snoc_ind {α : Type} {P : List α → Prop} (h0 : P []) (h1 : ∀ l a, P l → P (l ++ [a])) (l : List α) : P l := by
  rw [← List.reverse_reverse l]
  generalize l.reverse = r
  induction r with
  | nil => exact h0
  | cons a r ih => rw [List.reverse_cons]; exact h1 _ _ ih
theorem getD_left {l : List (List Int)} {a : List Int} {i : Nat} (h : i < l.length) : (l ++ [a]).getD i [] = l.getD i [] := by
  simp only [List.getD_eq_getElem?_getD]
  rw [List.getElem?_append_left h]
theorem getD_last {l : List (List Int)} {a : List Int} : (l ++ [a]).getD l.length [] = a := by
  simp [List.getD_eq_getElem?_getD]
def L1 (l : List (List Int)) (g : List Int → Nat) : Nat := S l.length fun j => g (l.getD j [])
theorem L1_snoc (l : List (List Int)) (a : List Int) (g : List Int → Nat) : L1 (l ++ [a]) g = L1 l g + g a := by
  unfold L1
  rw [List.length_append, show l.length + [a].length = l.length + 1 from rfl, S_succ, getD_last, S_congr l.length (g := fun j => g (l.getD j [])) fun i hi => by rw [getD_left hi]]
theorem pairS_snoc (l : List (List Int)) (a : List Int) (m : List Int → List Int → Nat) : pairS (l ++ [a]) m = pairS l m + L1 l (m a) := by
  have e1 : S l.length (fun i => S i fun j => m ((l ++ [a]).getD i []) ((l ++ [a]).getD j [])) = S l.length fun i => S i fun j => m (l.getD i []) (l.getD j []) :=
    S_congr l.length fun i hi => by
      rw [getD_left hi]
      exact S_congr i fun j hj => by rw [getD_left (by omega)]
  have e2 : S l.length (fun j => m a ((l ++ [a]).getD j [])) = S l.length fun j => m a (l.getD j []) := S_congr l.length fun j hj => by rw [getD_left hj]
  unfold pairS
  rw [List.length_append, show l.length + [a].length = l.length + 1 from rfl, S_succ, getD_last, e1, e2]
  rfl
theorem L1_filter (p : List Int → Bool) (g : List Int → Nat) (l : List (List Int)) : L1 (l.filter p) g = L1 l fun b => if p b = true then g b else 0 := by
  induction l using snoc_ind with
  | h0 => rfl
  | h1 l a ih =>
    rw [List.filter_append, L1_snoc]
    cases h : p a
    · simp [h, ih]
    · simp [h, L1_snoc, ih]
theorem L1_congr {l : List (List Int)} {f g : List Int → Nat} (h : ∀ b, f b = g b) : L1 l f = L1 l g := S_congr _ fun _ _ => h _
theorem pairS_filter (p : List Int → Bool) (m : List Int → List Int → Nat) (l : List (List Int)) : pairS (l.filter p) m = pairS l fun b c => if p b = true ∧ p c = true then m b c else 0 := by
  induction l using snoc_ind with
  | h0 => rfl
  | h1 l a ih =>
    rw [List.filter_append, pairS_snoc]
    cases h : p a
    · simp [h, ih]
      exact S_zero' fun _ _ => rfl
    · have e : [a].filter p = [a] := by simp [h]
      rw [e, pairS_snoc, ih, L1_filter]
      congr 1
      exact L1_congr fun b => by simp
theorem total_eq (T : List Int) (q : Nat) (l : List (List Int)) : total T q l = S l.length fun i => S i fun j => S q fun v => if (v : Int) ∈ l.getD i [] ∧ (v : Int) ∈ l.getD j [] then mm T v (l.getD i []) (l.getD j []) else 0 := by
  unfold total
  rw [S_congr q (g := fun v => S l.length fun i => S i fun j => if (v : Int) ∈ l.getD i [] ∧ (v : Int) ∈ l.getD j [] then mm T v (l.getD i []) (l.getD j []) else 0) fun v _ => by
    rw [pairS_filter]
    unfold pairS
    refine S_congr _ fun i _ => S_congr _ fun j _ => ?_
    simp only [decide_eq_true_eq]]
  rw [S_swap (fun v i => S i fun j => if (v : Int) ∈ l.getD i [] ∧ (v : Int) ∈ l.getD j [] then mm T v (l.getD i []) (l.getD j []) else 0) l.length q]
  exact S_congr _ fun i _ => S_swap (fun v j => if (v : Int) ∈ l.getD i [] ∧ (v : Int) ∈ l.getD j [] then mm T v (l.getD i []) (l.getD j []) else 0) i q
theorem S_pair {n u v c : Nat} (hu : u < n) (hv : v < n) (huv : u ≠ v) : S n (fun k => S k fun m => if (k = u ∧ m = v) ∨ (k = v ∧ m = u) then c else 0) = c := by
  have key : ∀ u v, v < u → u < n → S n (fun k => S k fun m => if (k = u ∧ m = v) ∨ (k = v ∧ m = u) then c else 0) = c := by
    intro u v hvu hu
    rw [S_congr n (g := fun k => if k = u then c else 0) fun k hk => by
      by_cases hku : k = u
      · rw [if_pos hku, S_congr k (g := fun m => if m = v then c else 0) fun m hm => by
          by_cases hmv : m = v
          · rw [if_pos hmv, if_pos (by omega)]
          · rw [if_neg hmv, if_neg (by omega)]]
        exact S_one c (by omega)
      · rw [if_neg hku]
        exact S_zero' fun m hm => if_neg (by omega)]
    exact S_one c hu
  rcases Nat.lt_or_gt_of_ne huv with h | h
  · rw [S_congr n (g := fun k => S k fun m => if (k = v ∧ m = u) ∨ (k = u ∧ m = v) then c else 0) fun k _ => S_congr k fun m _ => by
      by_cases hc : (k = u ∧ m = v) ∨ (k = v ∧ m = u)
      · rw [if_pos hc, if_pos hc.symm]
      · rw [if_neg hc, if_neg fun h => hc h.symm]]
    exact key v u h hv
  · exact key u v h hu
section
variable {q : Nat} {l : List (List Int)} {T : List Int}
theorem tv_third (hq : q ≤ 40) (h : Sys q l) (hR : Rep l T) (ht : ∀ b, b ∈ l → tri q b) {k : Nat} (hk : k < l.length) {u v : Int} (hu : u ∈ l.getD k []) (hv : v ∈ l.getD k []) (huv : u ≠ v) : tv T u v = sum3 (l.getD k []) - u - v := by
  have hkt := h.tri k hk
  have r1 := tri_inR hkt (by omega) hu
  have r2 := tri_inR hkt (by omega) hv
  have hg := hR.get u v r1 r2 huv
  rw [tv_get hR.len r1 r2] at hg
  obtain ⟨_, b, hb, hbu, hbv, hval⟩ := valS_pos (l := l) (u := u) (v := v) (fun b hb => tri_mono (ht b hb) (by omega)) huv ⟨_, List.mem_of_getElem? (getD_get hk), hu, hv⟩
  have : tv T u v = valS l u v := Option.some.inj hg
  rw [this, hval]
  obtain ⟨m, hm, rfl⟩ := List.getElem_of_mem hb
  have e : l.getD m [] = l[m] := by simp [List.getD, List.getElem?_eq_getElem hm]
  rw [← e] at hbu hbv ⊢
  rw [h.uniq m k u v hm hk huv hbu hbv hu hv]
/-- Four blocks through five points. -/
theorem four_iff {bi bj ba bb : List Int} (ti : tri q bi) (tj : tri q bj) (ta : tri q ba) (tb : tri q bb) {p x y z w : Int} (mi : ∀ u, u ∈ bi ↔ u = p ∨ u = x ∨ u = y) (mj : ∀ u, u ∈ bj ↔ u = p ∨ u = z ∨ u = w)
    (hxa : x ∈ ba) (hza : z ∈ ba) (hyb : y ∈ bb) (hwb : w ∈ bb) (npa : ¬ p ∈ ba) (npb : ¬ p ∈ bb) (nya : ¬ y ∈ ba) (nwa : ¬ w ∈ ba) (nxb : ¬ x ∈ bb) (nzb : ¬ z ∈ bb) (hxz : x ≠ z) (hyw : y ≠ w) (hpx : p ≠ x) (hpy : p ≠ y) (hpz : p ≠ z) (hpw : p ≠ w) (hxy : x ≠ y) (hzw : z ≠ w) (hxw : x ≠ w) (hyz : y ≠ z) :
    psch q bi bj ba bb = true ↔ sum3 ba - x - z = sum3 bb - y - w := by
  have ma := fun u => tri_mem ta hxa hza hxz (w := u)
  have mb := fun u => tri_mem tb hyb hwb hyw (w := u)
  obtain ⟨a1, a2, a3, _⟩ := tri_third ta hxa hza hxz
  obtain ⟨b1, b2, b3, _⟩ := tri_third tb hyb hwb hyw
  generalize sum3 ba - x - z = r at *
  generalize sum3 bb - y - w = s at *
  have hrp : r ≠ p := fun h => npa (h ▸ a1)
  have hry : r ≠ y := fun h => nya (h ▸ a1)
  have hrw : r ≠ w := fun h => nwa (h ▸ a1)
  have hsp : s ≠ p := fun h => npb (h ▸ b1)
  have hsx : s ≠ x := fun h => nxb (h ▸ b1)
  have hsz : s ≠ z := fun h => nzb (h ▸ b1)
  rw [psch_iff ti tj ta tb]
  constructor
  · intro h
    have := h r
    unfold dg at this
    rw [ind_neg (fun h => by have := (mi r).1 h; omega), ind_neg (fun h => by have := (mj r).1 h; omega), ind_pos a1] at this
    by_cases hrb : r ∈ bb
    · have := (mb r).1 hrb
      omega
    · rw [ind_neg hrb] at this
      omega
  · intro hrs u
    subst hrs
    unfold dg ind
    simp only [mi, mj, ma, mb]
    clear mi mj ma mb hxa hza hyb hwb npa npb nya nwa nxb nzb a1 a2 a3 b1 b2 b3 ti tj ta tb
    by_cases e1 : u = p
    · subst e1; simp [hpx, hpy, hpz, hpw, hrp.symm]
    · by_cases e2 : u = x
      · subst e2; simp [hpx.symm, hxy, hxz, hxw, hsx.symm]
      · by_cases e3 : u = y
        · subst e3; simp [hpy.symm, hxy.symm, hyz, hyw, hry.symm]
        · by_cases e4 : u = z
          · subst e4; simp [hpz.symm, hxz.symm, hyz.symm, hzw, hsz.symm]
          · by_cases e5 : u = w
            · subst e5; simp [hpw.symm, hxw.symm, hyw.symm, hzw.symm, hrw.symm]
            · by_cases e6 : u = r
              · subst e6; simp [hrp, hsx, hry, hsz, hrw]
              · simp [e1, e2, e3, e4, e5, e6]
theorem body_of {n i j a b c d : Nat} {g : Nat → Nat → Nat} (hs : ∀ k m, g k m = g m k) (ai : a ≠ i) (aj : a ≠ j) (bi : b ≠ i) (bj : b ≠ j) (ci : c ≠ i) (cj : c ≠ j) (di : d ≠ i) (dj : d ≠ j) (ac : a ≠ c) (ad : a ≠ d) (bc : b ≠ c) (bd : b ≠ d)
    (only : ∀ k m, k < n → m < n → k ≠ i → k ≠ j → m ≠ i → m ≠ j → g k m ≠ 0 → ((k = a ∧ m = b) ∨ (k = b ∧ m = a)) ∨ ((k = c ∧ m = d) ∨ (k = d ∧ m = c))) (k m : Nat) (hk : k < n) (hmk : m < k) :
    (if k ≠ i ∧ k ≠ j ∧ m ≠ i ∧ m ≠ j then g k m else 0) = (if (k = a ∧ m = b) ∨ (k = b ∧ m = a) then g a b else 0) + (if (k = c ∧ m = d) ∨ (k = d ∧ m = c) then g c d else 0) := by
  by_cases c1 : (k = a ∧ m = b) ∨ (k = b ∧ m = a)
  · have n2 : ¬ ((k = c ∧ m = d) ∨ (k = d ∧ m = c)) := by omega
    have n3 : k ≠ i ∧ k ≠ j ∧ m ≠ i ∧ m ≠ j := by omega
    rw [if_pos n3, if_pos c1, if_neg n2]
    rcases c1 with ⟨rfl, rfl⟩ | ⟨rfl, rfl⟩
    · rfl
    · rw [hs]; rfl
  · by_cases c2 : (k = c ∧ m = d) ∨ (k = d ∧ m = c)
    · have n3 : k ≠ i ∧ k ≠ j ∧ m ≠ i ∧ m ≠ j := by omega
      rw [if_pos n3, if_neg c1, if_pos c2]
      rcases c2 with ⟨rfl, rfl⟩ | ⟨rfl, rfl⟩
      · simp
      · rw [hs]; simp
    · rw [if_neg c1, if_neg c2]
      split
      · rename_i hne
        apply Classical.byContradiction
        intro hpf
        rcases only k m hk (by omega) hne.1 hne.2.1 hne.2.2.1 hne.2.2.2 hpf with h | h
        · exact c1 h
        · exact c2 h
      · rfl
set_option maxHeartbeats 1000000 in
theorem stepB (hq : q ≤ 40) (h : Sys q l) (hR : Rep l T) (ht : ∀ b, b ∈ l → tri q b) {i j : Nat} (hi : i < l.length) (hj : j < l.length) (hij : i ≠ j) :
    S q (fun v => if (v : Int) ∈ l.getD i [] ∧ (v : Int) ∈ l.getD j [] then mm T v (l.getD i []) (l.getD j []) else 0) =
    S l.length fun k => S k fun m => if k ≠ i ∧ k ≠ j ∧ m ≠ i ∧ m ≠ j then pf q l i j k m else 0 := by
  by_cases hp : ∃ p, p ∈ l.getD i [] ∧ p ∈ l.getD j []
  · obtain ⟨p, hpi, hpj⟩ := hp
    have rp := tri_range (h.tri i hi) hpi
    obtain ⟨p, rfl⟩ := Int.eq_ofNat_of_zero_le rp.1
    have nij : ∀ u, u ∈ l.getD i [] → u ≠ p → ¬ u ∈ l.getD j [] := fun u hu hup hu' => hij (h.uniq i j u p hi hj hup hu hpi hu' hpj)
    rw [S_single (a := p) (by omega) fun v _ hv => if_neg fun hvv => nij v hvv.1 (by omega) hvv.2, if_pos ⟨hpi, hpj⟩]
    obtain ⟨x1, y1, x2, y2, xy⟩ := oth_mem (h.tri i hi) hpi
    obtain ⟨z1, w1, z2, w2, zw⟩ := oth_mem (h.tri j hj) hpj
    have mi := fun u => oth_iff (h.tri i hi) hpi (u := u)
    have mj := fun u => oth_iff (h.tri j hj) hpj (u := u)
    unfold mm
    generalize (oth (l.getD i []) p).1 = x at *
    generalize (oth (l.getD i []) p).2 = y at *
    generalize (oth (l.getD j []) p).1 = z at *
    generalize (oth (l.getD j []) p).2 = w at *
    have nxj := nij x x1 x2
    have nyj := nij y y1 y2
    have nzi : ¬ z ∈ l.getD i [] := fun hz => nij z hz z2 z1
    have nwi : ¬ w ∈ l.getD i [] := fun hw => nij w hw w2 w1
    have xz : x ≠ z := fun e => nxj (e ▸ z1)
    have xw : x ≠ w := fun e => nxj (e ▸ w1)
    have yz : y ≠ z := fun e => nyj (e ▸ z1)
    have yw : y ≠ w := fun e => nyj (e ▸ w1)
    have rx := tri_range (h.tri i hi) x1
    have ry := tri_range (h.tri i hi) y1
    have rz := tri_range (h.tri j hj) z1
    have rw' := tri_range (h.tri j hj) w1
    obtain ⟨a, ha, ax, az⟩ := h.ex x z rx.1 rx.2 rz.1 rz.2 xz
    obtain ⟨b, hb, by', bw⟩ := h.ex y w ry.1 ry.2 rw'.1 rw'.2 yw
    obtain ⟨c, hc, cx, cw⟩ := h.ex x w rx.1 rx.2 rw'.1 rw'.2 xw
    obtain ⟨d, hd, dy, dz⟩ := h.ex y z ry.1 ry.2 rz.1 rz.2 yz
    rw [tv_third hq h hR ht ha ax az xz, tv_third hq h hR ht hb by' bw yw, tv_third hq h hR ht hc cx cw xw, tv_third hq h hR ht hd dy dz yz]
    -- a block with a point of each is neither
    have ofi : ∀ k u v, k < l.length → k ≠ i → u ∈ l.getD i [] → v ∈ l.getD i [] → u ≠ v → u ∈ l.getD k [] → ¬ v ∈ l.getD k [] := fun k u v hk hki hu hv huv hu' hv' => hki (h.uniq k i u v hk hi huv hu' hv' hu hv)
    have ofj : ∀ k u v, k < l.length → k ≠ j → u ∈ l.getD j [] → v ∈ l.getD j [] → u ≠ v → u ∈ l.getD k [] → ¬ v ∈ l.getD k [] := fun k u v hk hkj hu hv huv hu' hv' => hkj (h.uniq k j u v hk hj huv hu' hv' hu hv)
    have ai : a ≠ i := fun e => nzi (e ▸ az)
    have aj : a ≠ j := fun e => nxj (e ▸ ax)
    have bi : b ≠ i := fun e => nwi (e ▸ bw)
    have bj : b ≠ j := fun e => nyj (e ▸ by')
    have ci : c ≠ i := fun e => nwi (e ▸ cw)
    have cj : c ≠ j := fun e => nxj (e ▸ cx)
    have di : d ≠ i := fun e => nzi (e ▸ dz)
    have dj : d ≠ j := fun e => nyj (e ▸ dy)
    have ay := ofi a x y ha ai x1 y1 xy ax
    have aw := ofj a z w ha aj z1 w1 zw az
    have ap := ofi a x p ha ai x1 hpi x2 ax
    have bx := ofi b y x hb bi y1 x1 xy.symm by'
    have bz := ofj b w z hb bj w1 z1 zw.symm bw
    have bp := ofi b y p hb bi y1 hpi y2 by'
    have cy := ofi c x y hc ci x1 y1 xy cx
    have cz := ofj c w z hc cj w1 z1 zw.symm cw
    have cp := ofi c x p hc ci x1 hpi x2 cx
    have dx := ofi d y x hd di y1 x1 xy.symm dy
    have dw := ofj d z w hd dj z1 w1 zw dz
    have dp := ofi d y p hd di y1 hpi y2 dy
    have ab : a ≠ b := fun e => ay (e ▸ by')
    have cd : c ≠ d := fun e => cy (e ▸ dy)
    have fab := four_iff (h.tri i hi) (h.tri j hj) (h.tri a ha) (h.tri b hb) mi mj ax az by' bw ap bp ay aw bx bz xz yw x2.symm y2.symm z2.symm w2.symm xy zw xw yz
    have mj' : ∀ u, u ∈ l.getD j [] ↔ u = (p : Int) ∨ u = w ∨ u = z := fun u => by rw [mj u]; omega
    have fcd := four_iff (h.tri i hi) (h.tri j hj) (h.tri c hc) (h.tri d hd) mi mj' cx cw dy dz cp dp cy cz dx dw xw yz x2.symm y2.symm w2.symm z2.symm xy zw.symm xz yw
    have pab : pf q l i j a b = if sum3 (l.getD a []) - x - z = sum3 (l.getD b []) - y - w then 1 else 0 := by
      unfold pf
      by_cases e : sum3 (l.getD a []) - x - z = sum3 (l.getD b []) - y - w
      · rw [if_pos (fab.2 e), if_pos e]
      · rw [if_neg (fun h => e (fab.1 h)), if_neg e]
    have pcd : pf q l i j c d = if sum3 (l.getD c []) - x - w = sum3 (l.getD d []) - y - z then 1 else 0 := by
      unfold pf
      by_cases e : sum3 (l.getD c []) - x - w = sum3 (l.getD d []) - y - z
      · rw [if_pos (fcd.2 e), if_pos e]
      · rw [if_neg (fun h => e (fcd.1 h)), if_neg e]
    rw [← pab, ← pcd]
    have only : ∀ k m, k < l.length → m < l.length → k ≠ i → k ≠ j → m ≠ i → m ≠ j → pf q l i j k m ≠ 0 → x ∈ l.getD k [] → (k = a ∧ m = b) ∨ (k = c ∧ m = d) := by
      intro k m hk hm ki kj mi' mj'' hpf hxk
      unfold pf at hpf
      split at hpf
      · rename_i hps
        have hd' := (psch_iff (h.tri i hi) (h.tri j hj) (h.tri k hk) (h.tri m hm)).1 hps
        have inone : ∀ u, u ∈ l.getD i [] → ¬ u ∈ l.getD j [] → ¬ u ∈ l.getD k [] → u ∈ l.getD m [] := by
          intro u h1 h2 h3
          have := hd' u
          unfold dg at this
          rw [ind_pos h1, ind_neg h2, ind_neg h3] at this
          apply Classical.byContradiction
          intro h4
          rw [ind_neg h4] at this
          omega
        have inone' : ∀ u, u ∈ l.getD j [] → ¬ u ∈ l.getD i [] → u ∈ l.getD k [] ∨ u ∈ l.getD m [] := by
          intro u h1 h2
          have := hd' u
          unfold dg at this
          rw [ind_neg h2, ind_pos h1] at this
          by_cases h3 : u ∈ l.getD k []
          · exact .inl h3
          · right
            apply Classical.byContradiction
            intro h4
            rw [ind_neg h3, ind_neg h4] at this
            omega
        have ym : y ∈ l.getD m [] := inone y y1 nyj (ofi k x y hk ki x1 y1 xy hxk)
        rcases inone' z z1 nzi with zk | zm
        · have wm : w ∈ l.getD m [] := (inone' w w1 nwi).resolve_left (ofj k z w hk kj z1 w1 zw zk)
          exact .inl ⟨h.uniq k a x z hk ha xz hxk zk ax az, h.uniq m b y w hm hb yw ym wm by' bw⟩
        · have wk : w ∈ l.getD k [] := (inone' w w1 nwi).resolve_right (ofj m z w hm mj'' z1 w1 zw zm)
          exact .inr ⟨h.uniq k c x w hk hc xw hxk wk cx cw, h.uniq m d y z hm hd yz ym zm dy dz⟩
      · omega
    have ac : a ≠ c := fun e => cz (e ▸ az)
    have ad : a ≠ d := fun e => dx (e ▸ ax)
    have bc : b ≠ c := fun e => cy (e ▸ by')
    have bd : b ≠ d := fun e => dw (e ▸ bw)
    have only2 : ∀ k m, k < l.length → m < l.length → k ≠ i → k ≠ j → m ≠ i → m ≠ j → pf q l i j k m ≠ 0 → ((k = a ∧ m = b) ∨ (k = b ∧ m = a)) ∨ ((k = c ∧ m = d) ∨ (k = d ∧ m = c)) := by
      intro k m hk hm ki kj mi' mj'' hpf
      by_cases hxk : x ∈ l.getD k []
      · rcases only k m hk hm ki kj mi' mj'' hpf hxk with h | h
        · exact .inl (.inl h)
        · exact .inr (.inl h)
      · have hps : psch q (l.getD i []) (l.getD j []) (l.getD k []) (l.getD m []) = true := by
          unfold pf at hpf
          split at hpf
          · assumption
          · exact (hpf rfl).elim
        have := (psch_iff (h.tri i hi) (h.tri j hj) (h.tri k hk) (h.tri m hm)).1 hps x
        unfold dg at this
        rw [ind_pos x1, ind_neg nxj, ind_neg hxk] at this
        have hxm : x ∈ l.getD m [] := by
          apply Classical.byContradiction
          intro h4
          rw [ind_neg h4] at this
          simp at this
        rcases only m k hm hk mi' mj'' ki kj (by rw [← pf34]; exact hpf) hxm with h | h
        · exact .inl (.inr ⟨h.2, h.1⟩)
        · exact .inr (.inr ⟨h.2, h.1⟩)
    have body := body_of (n := l.length) (g := fun k m => pf q l i j k m) (fun k m => pf34 q l i j k m) ai aj bi bj ci cj di dj ac ad bc bd only2
    rw [S_congr l.length (g := fun k => S k (fun m => if (k = a ∧ m = b) ∨ (k = b ∧ m = a) then pf q l i j a b else 0) + S k (fun m => if (k = c ∧ m = d) ∨ (k = d ∧ m = c) then pf q l i j c d else 0)) fun k hk => by
      rw [← S_add]
      exact S_congr k fun m hm => body k m hk hm]
    rw [S_add, S_pair ha hb ab, S_pair hc hd cd]
  · have hp : ∀ u, u ∈ l.getD i [] → ¬ u ∈ l.getD j [] := fun u h1 h2 => hp ⟨u, h1, h2⟩
    rw [S_zero' fun v _ => if_neg fun hv => hp v hv.1 hv.2]
    refine (S_zero' fun k hk => S_zero' fun m hm => ?_).symm
    split
    · rename_i hne
      apply Classical.byContradiction
      intro hpf
      unfold pf at hpf
      split at hpf
      · rename_i hps
        obtain ⟨u, h1, h2⟩ := meet_of h hi hj hk (by omega) (Ne.symm hne.1) (Ne.symm hne.2.2.1) hps
        exact hp u h1 h2
      · omega
    · rfl
theorem total_six (hq : q ≤ 40) (h : Sys q l) (hR : Rep l T) (ht : ∀ b, b ∈ l → tri q b) : total T q l = 6 * passes q l := by
  rw [total_eq, passes_S4 h, ← six (pf12 q l) (pf23 q l) (pf34 q l)]
  unfold S4
  refine S_congr _ fun i hi => ?_
  rw [← S_below (show i ≤ l.length by omega)]
  refine S_congr _ fun j hj => ?_
  by_cases hji : j < i
  · rw [if_pos hji, stepB hq h hR ht hi hj (by omega)]
    refine S_congr _ fun k hk => ?_
    rw [← S_below (show k ≤ l.length by omega)]
    refine S_congr _ fun m hm => ?_
    by_cases hmk : m < k
    · rw [if_pos hmk]
      by_cases hc : k ≠ i ∧ k ≠ j ∧ m ≠ i ∧ m ≠ j
      · rw [if_pos hc]
        exact (if_pos ⟨hji, hmk, hc⟩).symm
      · rw [if_neg hc]
        exact (if_neg fun h => hc h.2.2).symm
    · rw [if_neg hmk]
      exact (if_neg fun h => hmk h.2.1).symm
  · rw [if_neg hji]
    exact (S_zero' fun k hk => S_zero' fun m hm => if_neg fun h => hji h.1).symm
end
theorem passes_law {n : Nat} {p : Int} {l : List (List Int)} (h : okB n l) (hn : 200 < n) : law2_TriplePasses n p l = some true := by
  unfold law2_TriplePasses
  rw [TripleFault_eq h (by omega), bnd_sm]
  by_cases hp : 0 ≤ p
  · obtain ⟨q, rfl⟩ := Int.eq_ofNat_of_zero_le hp
    obtain ⟨c, e1, e2, e3⟩ := Passes_eq (q := q) h hn
    rw [e1, bnd_sm, brO_if]
    by_cases h0 : tfault q l = 0
    · rw [if_neg (by simp [h0])]
      have hd : dck q l = 0 := by
        unfold tfault at h0
        split at h0
        · assumption
        · exact h0
      have h3 : len3 l = true := by
        unfold tfault at h0
        rw [if_pos hd] at h0
        split at h0
        · assumption
        · omega
      have hg : good q l = true := by
        unfold tfault at h0
        rw [if_pos hd, if_pos h3] at h0
        split at h0
        · assumption
        · omega
      obtain ⟨q1, q2, q3⟩ := dck_zero hd
      have ht := tri_of hd h3
      rw [PassesOf_eq h hn (by omega) q3 ht, bnd_sm]
      obtain ⟨T, hR, rfl⟩ := e3 h0
      have h6 := total_six (by omega) (sys_of ht hg) hR ht
      have e6 : total T q l / 6 = passes q l := by omega
      rw [e6]
      simp [h0, brO]
    · rw [if_pos (by simpa using h0)]
      have hc := e2 h0
      subst hc
      simp [brO]
  · have hd : dck p l = 1 := by unfold dck; rw [if_pos (by omega)]
    have ht : tfault p l = 1 := by unfold tfault; rw [hd]; rfl
    obtain ⟨T, e1, hT, hR⟩ := open_eq (p := p) h (by omega)
    have hzz : (List.replicate 1600 (0 : Int)).length = 1600 := List.length_replicate ..
    unfold triple_Passes
    rw [e1, bnd_sm, ht]
    simp only
    rw [chk_T, chk_pos hT, chk_pos hzz]
    rfl
end Go.Gl
