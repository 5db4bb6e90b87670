/-
  A step leads from what may be to what may be: the law's walk.
-/
import Derived.Test.YtnaclkaapicelaaGameE
import Derived.Test.YtnaclkaapicelaaOpenSt
namespace Go.Proofs.Ytnaclkaapicelaa
open Go.RowKit
set_option maxRecDepth 100000
/-- All events are of a frame. -/
def FrL (F : Int) (L : List Ev) : Prop := ∀ e ∈ L, e.frame = F
section
variable {F : Int} {L : List Ev} {S : Nat → Int}
theorem FrL.nil : FrL F [] := fun _ h => absurd h (by simp)
theorem FrL.add (h : FrL F L) (x : Ev) : FrL F (addE F L x) := fun e he => by
  rcases mem_insL.1 he with rfl | he
  · rfl
  · exact h e he
theorem FrL.fire (h : FrL F L) (i : Nat) : FrL F (fireS i F (S, L)).2 := by
  unfold fireS
  dsimp only
  split
  · exact h
  · split
    · exact h.add _
    · exact h
theorem FrL.play (h : FrL F L) (i n : Nat) : FrL F (playS i n F (S, L)).2 := by
  have h1 : ∀ q, FrL F (lThrust i q n F L) := fun q => by
    unfold lThrust
    split
    · exact h.add _
    · exact h
  have h2 : ∀ p, FrL F (steerL i p n F L) := fun p => by
    unfold steerL lDash
    split
    · exact (h1 _).add _
    · exact h1 _
  have h3 : ∀ p q, FrL F (lMove i q F (steerL i p n F L)) := fun p q => by
    unfold lMove
    split
    · exact h2 _
    · exact (h2 _).add _
  unfold playS
  dsimp only
  split
  · exact h
  · split
    · exact h.add _
    · split
      · exact (h3 _ _).fire i
      · exact h3 _ _
theorem FrL.clash (h : FrL F L) : FrL F (clashS F (S, L)).2 := by
  unfold clashS
  split
  · exact h.add _
  · exact h
theorem FrL.hit (h : FrL F L) (i : Nat) : FrL F (hitS i F (S, L)).2 := by
  unfold hitS
  dsimp only
  split
  · exact h.add _
  · exact (h.add _).add _
theorem FrL.flyT (h : FrL F L) (k : Nat) : FrL F (flyT k F (S, L)).2.2 := by
  unfold Go.Proofs.Ytnaclkaapicelaa.flyT
  dsimp only
  split
  · exact h
  · split
    · exact h
    · split
      · exact h.hit _
      · exact h
theorem FrL.fly (h : FrL F L) (k : Nat) : FrL F (flyS k F (S, L)).2 := by
  unfold flyS
  split
  · exact h
  · split
    · exact h.flyT k
    · exact h.flyT k
theorem FrL.flyTo (h : FrL F L) : ∀ k, FrL F (flyTo F (S, L) k).2
  | 0 => h
  | k + 1 => (FrL.flyTo h k).fly (S := (Go.Proofs.Ytnaclkaapicelaa.flyTo F (S, L) k).1) k
theorem FrL.round (h : FrL F L) : FrL F (roundS F (S, L)).2 := by
  unfold roundS
  split
  · exact h.add _
  · exact h
end
theorem stepS_fr (n0 n1 : Nat) (S : Nat → Int) : FrL (S 0) (stepS n0 n1 S).2 := by
  rw [stepS_eq]
  exact FrL.round (S := (stg4 n0 n1 S 6).1) ((((FrL.nil.play (S := S) 0 n0).play (S := (stg1 n0 S).1) 1 n1).clash (S := (stg2 n0 n1 S).1)).flyTo (S := (stg3 n0 n1 S).1) 6)
/-- A new variable's block, told ahead. -/
def newTold (w : World) (T : TypeId) (cs : Array Value) : Told := ⟨fun v => ∃ g, v = .pointer (some ⟨g, 0, none⟩), fun v W => ∀ g, v = .pointer (some ⟨g, 0, none⟩) → w.heap.size ≤ g ∧ Blk W g T cs⟩
theorem newTold_st {w : World} {T : TypeId} {cs : Array Value} : ∀ v W U, (newTold w T cs).R v W → Grown W U → (newTold w T cs).R v U := fun _ _ _ h k g hg => ⟨(h g hg).1, (h g hg).2.on k⟩
theorem newTold_makes {P : Program} {w : World} {a : Act} {o : Oper} {T : TypeId} {z : Value} {cs : Array Value} (ho : o.op = .alloc T) (hz : ∀ W, (zeroValue T).run P W = .ok z W) (hc : z.cells = cs) : Makes P w o (newTold w T cs).S (newTold w T cs).R a := fun W hW => by
  have hr : (execOp a.eval o).run P W = .ok (.value (.pointer (some ⟨W.heap.size, 0, none⟩))) (W.alloc (.cells cs T)) := by
    unfold execOp
    simp only [ho, Instr.alloc, Sem.run_bind, hz, Result.andThen_ok, newVar, newRow, newObj, hc]
    rfl
  unfold Oper.goes
  rw [hr]
  refine ⟨⟨⟨_, rfl⟩, fun g hg => ?_⟩, bAlloc (Below.refl _ _) _⟩
  simp only [Value.pointer.injEq, Option.some.injEq, Addr.mk.injEq, and_true] at hg
  subst hg
  exact ⟨Below.size hW, Blk.new _ _ _⟩
theorem zero_state (W : World) : (zeroValue 33).run Try.prog W = .ok (.agg (stCells zeroT).toArray) W := by kernel_rfl
end Go.Proofs.Ytnaclkaapicelaa
