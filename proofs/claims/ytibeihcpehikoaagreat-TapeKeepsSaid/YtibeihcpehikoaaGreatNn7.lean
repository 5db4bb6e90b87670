/-
  The walks beneath: RdF, RdK, RdE, RdV, RdL.
-/
import Derived.Test.YtibeihcpehikoaaGreatNn5
import Derived.Test.YtibeihcpehikoaaGreatNn4
namespace Go.Proofs.YtibeihcpehikoaaGreat
open Go.RowKit
set_option maxRecDepth 100000
set_option linter.unusedSimpArgs false
section
def UnpF (s : ByteArray) (sd d x m : Int) (a b : List Nat) (er : Int) : Prop :=
 (er = 0 ∧ IsTp s sd d x m a b ∧ ∀ sd' d' x' m' a' b', IsTp s sd' d' x' m' a' b' → sd' = sd ∧ d' = d ∧ x' = x ∧ m' = m ∧ a' = a ∧ b' = b) ∨
 (er = unpE s ∧ er ≠ 0 ∧ (sd = 0 ∧ d = 0 ∧ x = 0 ∧ m = 0 ∧ a = [] ∧ b = []) ∧ ∀ sd d x m a b, ¬ IsTp s sd d x m a b)
theorem unpE_ne (s : ByteArray) : unpE s ≠ 0 := by
 unfold unpE
 split
 ·decide
 ·assumption
theorem UnpQ.form {w w' : World} {s : ByteArray} {e : Ending} (h : UnpQ w s e w') : ∃ (C : Array Value) (sd d x m : Int) (a b : List Nat) (A B : Option Addr) (c c' : Nat) (er : Int), e = .returned (.tuple #[.agg C, .int .i64 er]) ∧ C = #[.int .u32 sd, .int .i64 d, .int .i64 x, .int .i64 0, .slice A a.length c, .slice B b.length c', .int .u32 m] ∧ Below w.heap.size w w' ∧
  OwnL w' w.heap.size 5 1 (.slice A a.length c) btC a ∧ OwnL w' w.heap.size 5 1 (.slice B b.length c') btC b ∧ UnpF s sd d x m a b er := by
 obtain ⟨hb, ⟨sd, d, x, m, a, b, A, B, c, c', h1, h2, rfl, h3, h4⟩ | ⟨h, rfl⟩⟩ := h
 ·exact ⟨_, sd, d, x, m, a, b, A, B, c, c', 0, rfl, rfl, hb, h3, h4, .inl ⟨rfl, h1, h2⟩⟩
 ·exact ⟨_, 0, 0, 0, 0, [], [], none, none, 0, 0, unpE s, rfl, rfl, hb, OwnL.nil, OwnL.nil, .inr ⟨rfl, unpE_ne s, ⟨rfl, rfl, rfl, rfl, rfl, rfl⟩, h⟩⟩
end
end Go.Proofs.YtibeihcpehikoaaGreat
