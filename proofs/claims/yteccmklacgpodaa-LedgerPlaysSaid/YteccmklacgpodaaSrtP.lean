/-
  Events in order of their keys, plain.
-/
import Derived.Test.YteccmklacgpodaaEventPlain
namespace Go.Proofs.Yteccmklacgpodaa
theorem cmpK_swap (a b : Key4) : cmpK b a = -cmpK a b := by
  have h1 := cmpK_bd a b
  have h2 := cmpK_bd b a
  have n1 := cmpK_neg a b
  have n2 := cmpK_neg b a
  have p1 := cmpK_pos a b
  have p2 := cmpK_pos b a
  have q1 : cmpK a b < 0 ↔ 0 < cmpK b a := n1.trans p2.symm
  have q2 : 0 < cmpK a b ↔ cmpK b a < 0 := p1.trans n2.symm
  omega
theorem cmpK_le (a b : Key4) : cmpK a b ≤ 0 ↔ ¬ b.Lt a := by rw [← cmpK_pos]; omega
theorem cmpK_tr {a b c : Key4} (h : cmpK a b ≤ 0) (k : cmpK b c ≤ 0) : cmpK a c ≤ 0 := by
  rw [cmpK_le] at *
  unfold Key4.Lt at *
  omega
def SortedW (L : List Ev) : Prop := L.Pairwise fun a b => cmpK a.key b.key ≤ 0
end Go.Proofs.Yteccmklacgpodaa
