/-
  A line's move, plainly.
-/
import Derived.Test.YtlonefjbcooaaaaDoorScC
import Derived.Test.YtlonefjbcooaaaaDoorScX
namespace Go.Proofs.YtlonefjbcooaaaaDoor
open Go.RowKit
set_option maxRecDepth 100000
set_option linter.unusedSimpArgs false
def nmK (k : Nat) : List UInt8 := nmR.getD (k + 1) []
def ctK (k : Nat) : Nat := ctR.getD (k + 1) 0
/-- A move's cells, of its kind (from 0) and its numbers. -/
def mvC (k : Nat) (ns : List Nat) : List Value := [.int .i64 ((k : Int) + 1), .int .i64 (ns.getD 0 0 : Nat), .int .i64 (if k = 0 ∨ k = 5 then 0 else (ns.getD 1 0 : Nat)), .int .i64 (if k = 4 then (ns.getD 2 0 : Nat) else 0),
  .int .u8 (if k = 4 then ((ns.getD 3 0 % 256 : Nat) : Int) else 0), .int .u8 (if k = 0 then ((ns.getD 1 0 % 256 : Nat) : Int) else 0)]
def okM (k : Nat) (ns : List Nat) : Bool := (if k = 0 then decide (ns.getD 1 0 < 256) else true) && (if k = 4 then decide (ns.getD 3 0 < 256) else true)
def findM (ws : List (List UInt8)) : Option (Nat × List Nat) := (List.range 6).findSome? fun k => (lineO ws (nmK k) (ctK k)).map fun ns => (k, ns)
def mvO (ws : List (List UInt8)) : Option (List Value) := match findM ws with
  | none => none
  | some (k, ns) => if okM k ns then some (mvC k ns) else none
theorem findM_hit {ws : List (List UInt8)} {k : Nat} {ns : List Nat} (hk : k < 6) (hj : ∀ j, j < k → lineO ws (nmK j) (ctK j) = none) (h : lineO ws (nmK k) (ctK k) = some ns) : findM ws = some (k, ns) := by
  unfold findM
  have r : List.range 6 = [0, 1, 2, 3, 4, 5] := rfl
  rw [r]
  rcases k with _ | _ | _ | _ | _ | _ | k
  · simp [h]
  · simp [h, hj 0 (by omega)]
  · simp [h, hj 0 (by omega), hj 1 (by omega)]
  · simp [h, hj 0 (by omega), hj 1 (by omega), hj 2 (by omega)]
  · simp [h, hj 0 (by omega), hj 1 (by omega), hj 2 (by omega), hj 3 (by omega)]
  · simp [h, hj 0 (by omega), hj 1 (by omega), hj 2 (by omega), hj 3 (by omega), hj 4 (by omega)]
  · omega
theorem findM_none {ws : List (List UInt8)} (hj : ∀ j, j < 6 → lineO ws (nmK j) (ctK j) = none) : findM ws = none := by
  unfold findM
  have r : List.range 6 = [0, 1, 2, 3, 4, 5] := rfl
  rw [r]
  simp [hj 0 (by omega), hj 1 (by omega), hj 2 (by omega), hj 3 (by omega), hj 4 (by omega), hj 5 (by omega)]
theorem lineO_len {ws : List (List UInt8)} {word : List UInt8} {c : Nat} {ns : List Nat} (h : lineO ws word c = some ns) : ns.length = c ∧ ∀ n ∈ ns, n ≤ 999999999 := by
  unfold lineO at h
  split at h
  · cases h
  · split at h
    · rename_i hc
      exact ⟨(numsO_len h).trans hc.2, numsO_le h⟩
    · cases h
def mv0 : Array Value := #[.int .i64 0, .int .i64 0, .int .i64 0, .int .i64 0, .int .u8 0, .int .u8 0]
theorem built_m0 : Tryd.prog.built 40 [] = some mv0 := by kernel_rfl
theorem built_m1 (k n : Int) : Tryd.prog.built 40 [(0, .int .i64 k), (1, .int .i64 n)] = some #[.int .i64 k, .int .i64 n, .int .i64 0, .int .i64 0, .int .u8 0, .int .u8 0] := by kernel_rfl
theorem mvInfo : (Tryd.prog.info? 40).map (·.size) = some 6 := by kernel_rfl
theorem mv_put {W : World} {g : Nat} {Z C : Array Value} (K : Blk W g 40 Z) (hZ : Z.size = 6) (hC : C.size = 6) :
    ∃ wx, W.setCells g 0 C.toList = wx ∧ W.there g 0 C.size ∧ (∀ p : Addr, p = ⟨g, 0, none⟩ → (loadVar 40 p).run Tryd.prog wx = .ok (.agg C) wx) ∧ Blk wx g 40 C ∧ W.grownBy wx (some g) :=
  row_put Tryd.underlying40 rfl mvInfo K hZ hC
theorem mvO_of {ws : List (List UInt8)} {k : Nat} {ns : List Nat} (h : findM ws = some (k, ns)) : mvO ws = if okM k ns then some (mvC k ns) else none := by unfold mvO; rw [h]
theorem mv_load {V : World} {g : Nat} {CL : List Value} (K : Blk V g 40 CL.toArray) (h6 : CL.length = 6) : (loadVar 40 ⟨g, 0, none⟩).run Tryd.prog V = .ok (.agg CL.toArray) V :=
  run_loadVar_mid V g 0 40 CL _ (fun j v hv => by rw [Nat.zero_add, K.cell]; simpa using hv) Tryd.underlying40 rfl (by rw [h6]; exact mvInfo)
/-- What a move's answer says. -/
def MvPost (ws : List (List UInt8)) (w : World) (e : Ending) (w' : World) : Prop := (∃ C b, e = .returned (.tuple #[.agg C, .bool b]) ∧ C.size = 6 ∧ C.all (·.oneCell') = true ∧ b = (mvO ws).isSome ∧ ∀ l, mvO ws = some l → C = l.toArray) ∧ Below w.heap.size w w'
theorem mvPost {ws : List (List UInt8)} {w w' : World} {e : Ending} (C : Array Value) (b : Bool) (h : e = .returned (.tuple #[.agg C, .bool b])) (h6 : C.size = 6) (h1 : C.all (·.oneCell') = true) (hb : b = (mvO ws).isSome) (hl : ∀ l, mvO ws = some l → C = l.toArray) (h2 : Below w.heap.size w w') : MvPost ws w e w' := ⟨⟨C, b, h, h6, h1, hb, hl⟩, h2⟩
end Go.Proofs.YtlonefjbcooaaaaDoor
