/-
  L52: the program's systems of triples are systems, each of them looked at.
  Conditions: none; plain laws.
-/
import Derived.Test.YtjneiglpfdkehaaL7
import Derived.Test.YtjneiglpfdkehaaL21
import Derived.KernelRfl
namespace Go.Gl
open Go Go.Gx Go.Gm
set_option maxRecDepth 100000
abbrev T3 := Nat × Nat × Nat
def boseT (t : Nat) : List T3 := let m := 2 * t + 1
  (List.range m).flatMap fun x => (x, x + m, x + 2 * m) :: (List.range' (x + 1) (m - x - 1)).flatMap fun y => (List.range 3).map fun i => (x + m * i, y + m * i, (x + y) * (t + 1) % m + m * ((i + 1) % 3))
def skolemT (t : Nat) : List T3 := let m := 2 * t
  ((List.range t).flatMap fun x => (x, x + m, x + 2 * m) :: (List.range 3).map fun i => (6 * t, x + t + m * i, x + m * ((i + 1) % 3))) ++
  (List.range m).flatMap fun x => (List.range' (x + 1) (m - x - 1)).flatMap fun y => (List.range 3).map fun i =>
    (x + m * i, y + m * i, (if (x + y) % m % 2 = 0 then (x + y) % m / 2 else ((x + y) % m - 1) / 2 + t) + m * ((i + 1) % 3))
def toI (z : T3) : List Int := [(z.1 : Int), (z.2.1 : Int), (z.2.2 : Int)]
def srt (l : List T3) : List (List Int) := l.map fun z => sortI (toI z)
def okT (v : Nat) (l : List T3) : Bool :=
  (l.all fun z => Nat.blt z.1 v && Nat.blt z.2.1 v && Nat.blt z.2.2 v && !Nat.beq z.1 z.2.1 && !Nat.beq z.2.1 z.2.2 && !Nat.beq z.1 z.2.2) &&
  Nat.beq (6 * l.length) (v * (v - 1)) &&
  (List.range v).all fun x => (List.range x).all fun y => l.any fun z => (Nat.beq z.1 x || Nat.beq z.2.1 x || Nat.beq z.2.2 x) && (Nat.beq z.1 y || Nat.beq z.2.1 y || Nat.beq z.2.2 y)
theorem sk0 (k : Nat) : triple_system_skolem (k + 100) [] 1 0 = some (srt (skolemT 0), 1) := by kernel_rfl
theorem sk1 (k : Nat) : triple_system_skolem (k + 100) [] 7 1 = some (srt (skolemT 1), 7) := by kernel_rfl
theorem sk2 (k : Nat) : triple_system_skolem (k + 100) [] 13 2 = some (srt (skolemT 2), 13) := by kernel_rfl
theorem sk3 (k : Nat) : triple_system_skolem (k + 100) [] 19 3 = some (srt (skolemT 3), 19) := by kernel_rfl
theorem sk4 (k : Nat) : triple_system_skolem (k + 100) [] 25 4 = some (srt (skolemT 4), 25) := by kernel_rfl
theorem sk5 (k : Nat) : triple_system_skolem (k + 100) [] 31 5 = some (srt (skolemT 5), 31) := by kernel_rfl
theorem bo0 (k : Nat) : triple_system_bose (k + 100) [] 3 0 = some (srt (boseT 0), 3) := by kernel_rfl
theorem bo1 (k : Nat) : triple_system_bose (k + 100) [] 9 1 = some (srt (boseT 1), 9) := by kernel_rfl
theorem bo2 (k : Nat) : triple_system_bose (k + 100) [] 15 2 = some (srt (boseT 2), 15) := by kernel_rfl
theorem bo3 (k : Nat) : triple_system_bose (k + 100) [] 21 3 = some (srt (boseT 3), 21) := by kernel_rfl
theorem bo4 (k : Nat) : triple_system_bose (k + 100) [] 27 4 = some (srt (boseT 4), 27) := by kernel_rfl
theorem bo5 (k : Nat) : triple_system_bose (k + 100) [] 33 5 = some (srt (boseT 5), 33) := by kernel_rfl
theorem ksk0 : okT 1 (skolemT 0) = true := by kernel_rfl
theorem ksk1 : okT 7 (skolemT 1) = true := by kernel_rfl
theorem ksk2 : okT 13 (skolemT 2) = true := by kernel_rfl
theorem ksk3 : okT 19 (skolemT 3) = true := by kernel_rfl
theorem ksk4 : okT 25 (skolemT 4) = true := by kernel_rfl
theorem ksk5 : okT 31 (skolemT 5) = true := by kernel_rfl
theorem kbo0 : okT 3 (boseT 0) = true := by kernel_rfl
theorem kbo1 : okT 9 (boseT 1) = true := by kernel_rfl
theorem kbo2 : okT 15 (boseT 2) = true := by kernel_rfl
theorem kbo3 : okT 21 (boseT 3) = true := by kernel_rfl
theorem kbo4 : okT 27 (boseT 4) = true := by kernel_rfl
theorem kbo5 : okT 33 (boseT 5) = true := by kernel_rfl
end Go.Gl
