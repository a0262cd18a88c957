/-
  L9d: how many points two blocks have together.
  Conditions: none; plain laws.
-/
import Derived.Test.YtjneiglpfdkehaaDoorL3
namespace Go.Gl
open Go Go.Gx Go.Gm
section
variable {ρ : Type}
/-- How many points two blocks have together. -/
def tog (a b : List Int) : Nat := a.countP fun x => decide (x ∈ b)
theorem Together_eq {n : Nat} {a b : List Int} (ha : a.length ≤ 9223372036854775807) (hna : a.length < n) (hb : b.length ≤ 9223372036854775807) (hnb : b.length < n) : ref2_Together n a b = some (tog a b : Int) := by
  unfold ref2_Together ref2_Together_l3
  refine (iter_list a (fun i (s : Int) => (s, (i : Int))) (fun x s nx => if decide (x ∈ b) = true then nx (IntKind.i64.wrap (s + 1)) else nx s) (fun s => some s) ?_ ?_ n 0 0 (Nat.zero_le _) (by omega)).trans ?_
  · intro i s nx hi
    unfold ref2_Together_s3
    simp (disch := omega) only [brO_pos, chk_pos, bnd_get, Int.toNat_natCast, w64s]
    rw [Lies_eq hb hnb, bnd_sm, brO_if]
  · intro s nx
    unfold ref2_Together_s3
    rw [brO_neg (by omega)]
  · rw [List.drop_zero]
    have := foldO_countW (ρ := Int) (fun x => decide (x ∈ b)) (fun s => some s) a 0 (by omega)
    rw [Nat.zero_add] at this
    exact this
end
end Go.Gl
