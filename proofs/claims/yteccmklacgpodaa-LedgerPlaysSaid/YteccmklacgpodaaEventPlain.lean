/-
  The events' plain functions: keys, their order, what may be.
-/
import Derived.Test.YteccmklacgpodaaEv
namespace Go.Proofs.Yteccmklacgpodaa

structure Key4 where
  frame : Int
  emitter : Int
  kind : Int
  ord : Int
def Key4.cells (k : Key4) : List Value := [.int .i64 k.frame, .int .i64 k.emitter, .int .i64 k.kind, .int .i64 k.ord]
theorem Key4.cells_length (k : Key4) : k.cells.length = 4 := rfl
def Key4.val (k : Key4) : Value := .agg #[.int .i64 k.frame, .int .i64 k.emitter, .int .i64 k.kind, .int .i64 k.ord]
def Ev.key (e : Ev) : Key4 := ⟨e.frame, e.emitter, e.kind, e.ord⟩
def Ev.val (e : Ev) : Value := .agg #[.int .i64 e.frame, .int .i64 e.emitter, .int .i64 e.kind, .int .i64 e.ord, .int .i64 e.asset, .int .i64 e.gain, .int .i64 e.pan, .int .i64 e.prio, .int .i64 e.len]

def cmpI (a b : Int) : Int := if a < b then -1 else if b < a then 1 else 0
def orI : List Int → Int
  | [] => 0
  | x :: l => if x = 0 then orI l else x
def cmpK (a b : Key4) : Int := orI [cmpI a.frame b.frame, cmpI a.emitter b.emitter, cmpI a.kind b.kind, cmpI a.ord b.ord]
def inB (n lo hi : Int) : Bool := decide (lo ≤ n ∧ n ≤ hi)
def keyOk (k : Key4) : Bool := inB k.frame 0 1073741824 && inB k.emitter 0 2 && inB k.kind 1 9 && inB k.ord 0 15
def evOk (e : Ev) : Bool := keyOk e.key && inB e.asset 0 31 && inB e.gain 0 32768 && inB e.pan (-32768) 32768 && inB e.prio 0 15 && inB e.len 0 600
theorem cmpI_bd (a b : Int) : -1 ≤ cmpI a b ∧ cmpI a b ≤ 1 := by unfold cmpI; repeat' split; all_goals omega
theorem orI_bd : ∀ l : List Int, (∀ x ∈ l, -1 ≤ x ∧ x ≤ 1) → -1 ≤ orI l ∧ orI l ≤ 1
  | [], _ => by simp [orI]
  | x :: l, h => by
    have h1 := h x (by simp)
    have h2 := orI_bd l fun y hy => h y (by simp [hy])
    rw [orI]; split <;> omega
theorem cmpK_bd (a b : Key4) : -1 ≤ cmpK a b ∧ cmpK a b ≤ 1 := by
  refine orI_bd _ fun x hx => ?_
  simp only [List.mem_cons, List.not_mem_nil, or_false] at hx
  rcases hx with rfl | rfl | rfl | rfl <;> exact cmpI_bd _ _
/-- a stands ahead of b. -/
def Key4.Lt (a b : Key4) : Prop := a.frame < b.frame ∨ a.frame = b.frame ∧ (a.emitter < b.emitter ∨ a.emitter = b.emitter ∧ (a.kind < b.kind ∨ a.kind = b.kind ∧ a.ord < b.ord))
theorem cmpK_neg (a b : Key4) : cmpK a b < 0 ↔ a.Lt b := by
  unfold cmpK Key4.Lt
  simp only [orI, cmpI]
  repeat' split
  all_goals omega
theorem cmpK_pos (a b : Key4) : 0 < cmpK a b ↔ b.Lt a := by
  unfold cmpK Key4.Lt
  simp only [orI, cmpI]
  repeat' split
  all_goals omega
theorem cmpK_zero (a b : Key4) : cmpK a b = 0 ↔ a = b := by
  unfold cmpK
  cases a; cases b
  simp only [orI, cmpI, Key4.mk.injEq]
  repeat' split
  all_goals omega
theorem Key4.Lt.trans {a b c : Key4} (h : a.Lt b) (k : b.Lt c) : a.Lt c := by
  unfold Key4.Lt at *; omega
theorem Key4.Lt.irrefl {a : Key4} (h : a.Lt a) : False := by
  unfold Key4.Lt at h; omega
end Go.Proofs.Yteccmklacgpodaa
