/-
  The walks beneath: Bot3, PlayP, TrP, OpenInt.
-/
import Derived.Outline
import Derived.DeepKeys
import Derived.WalkKit
import Derived.OpenShut
import Derived.Test.YtibeihcpehikoaaGreatNr35
import Derived.Test.YtibeihcpehikoaaGreatNr30
import Derived.Test.YtibeihcpehikoaaGreatNr28
namespace Go.Proofs.YtibeihcpehikoaaGreat
section
open Go.RowKit
set_option maxRecDepth 100000
/-- The state behind so many frames. -/
def stT (inp : Nat → Nat × Nat) (S : Nat → Int) : Nat → Nat → Int
  | 0 => S
  | k + 1 => (stepS (inp k).1 (inp k).2 (stT inp S k)).1
/-- One frame: the next state, its events. -/
def rdT (inp : Nat → Nat × Nat) (S : Nat → Int) (k : Nat) : (Nat → Int) × List Ev := stepS (inp k).1 (inp k).2 (stT inp S k)
def preT (inp : Nat → Nat × Nat) (S : Nat → Int) (k : Nat) : List ((Nat → Int) × List Ev) := (List.range k).map (rdT inp S)
theorem preT_succ (inp : Nat → Nat × Nat) (S : Nat → Int) (k : Nat) : preT inp S (k + 1) = preT inp S k ++ [rdT inp S k] := by
  unfold preT
  rw [List.range_succ, List.map_append]; rfl
theorem preT_length (inp : Nat → Nat × Nat) (S : Nat → Int) (k : Nat) : (preT inp S k).length = k := by unfold preT; simp
theorem stT_ok {inp : Nat → Nat × Nat} {S : Nat → Int} (h : StOk S) (h0 : S 0 = 0) (h2 : S 2 = 0) : ∀ k, k ≤ 100000 → StOk (stT inp S k) ∧ stT inp S k 0 = (k : Int) ∧ stT inp S k 2 ≤ (k : Int) ∧ 0 ≤ stT inp S k 2
  | 0, _ => ⟨h, h0, by show S 2 ≤ _; rw [h2]; decide, by show 0 ≤ S 2; rw [h2]; decide⟩
  | k + 1, hk => by
    obtain ⟨k1, k2, k3, k4⟩ := stT_ok (inp := inp) h h0 h2 k (by omega)
    obtain ⟨q1, q2, q3, q4, q5⟩ := stepS_ok (inp k).1 (inp k).2 k1 (by omega) (by omega)
    refine ⟨q1, ?_, ?_, ?_⟩
    · show (stepS _ _ (stT inp S k)).1 0 = _
      rw [q3, k2]; omega
    · show (stepS _ _ (stT inp S k)).1 2 ≤ _
      omega
    · show 0 ≤ (stepS _ _ (stT inp S k)).1 2
      omega
theorem stT_same {inp inq : Nat → Nat × Nat} {S : Nat → Int} : ∀ k, (∀ j, j < k → inp j = inq j) → stT inp S k = stT inq S k
  | 0, _ => rfl
  | k + 1, h => by
    show (stepS _ _ _).1 = (stepS _ _ _).1
    rw [stT_same k (fun j hj => h j (by omega)), h k (by omega)]
theorem rdT_same {inp inq : Nat → Nat × Nat} {S : Nat → Int} (k : Nat) (h : ∀ j, j ≤ k → inp j = inq j) : rdT inp S k = rdT inq S k := by
  unfold rdT
  rw [stT_same k (fun j hj => h j (by omega)), h k (Nat.le_refl _)]
/-- The inputs of a frame: nothing so long as they are on their way. -/
def inpT (d : Nat) (a b : List Nat) (f : Nat) : Nat × Nat := if f < d then (0, 0) else (a.getD (f - d) 0, b.getD (f - d) 0)
theorem inpT_cut {d : Nat} {a b : List Nat} {i k f : Nat} (h : f < d + min i k) : inpT d (a.take i) (b.take k) f = inpT d a b f := by
  unfold inpT
  split
  · rfl
  · rw [List.getD_eq_getElem?_getD, List.getD_eq_getElem?_getD, List.getD_eq_getElem?_getD, List.getD_eq_getElem?_getD, List.getElem?_take_of_lt (by omega), List.getElem?_take_of_lt (by omega)]
end
/-
  Values that are made of integers alone, held against each other: equal if and only if the integers are. No program is named here.
-/
end Go.Proofs.YtibeihcpehikoaaGreat
