/-
  A player's step, plain: part by part.
-/
import Derived.Test.YtibeihcpehikoaaGreatNk16
namespace Go.Proofs.YtibeihcpehikoaaGreat
open Go.RowKit
section
def bit (n b : Nat) : Bool := n &&& b != 0
structure PlB (p : Nat → Int) : Prop where
 ax : F32 (p 0)
 ay : F32 (p 1)
 wx : F32 (p 2)
 wy : F32 (p 3)
 fc : 0 ≤ p 4 ∧ p 4 ≤ 65535
 hp : 0 ≤ p 5 ∧ p 5 ≤ 3
 cl : 0 ≤ p 6 ∧ p 6 ≤ 8
 wd : 0 ≤ p 7 ∧ p 7 ≤ 20
 dn : 0 ≤ p 8 ∧ p 8 ≤ 30
 sc : 0 ≤ p 9 ∧ p 9 ≤ 2
def pCool (p : Nat → Int) : Nat → Int := upd (upd p 6 (max (p 6 - 1) 0)) 7 (max (p 7 - 1) 0)
def pLeft (p : Nat → Int) (n : Nat) : Nat → Int := if bit n 1 then upd p 4 (p 4 - 1024) else p
def pRight (p : Nat → Int) (n : Nat) : Nat → Int := if bit n 2 then upd p 4 (p 4 + 1024) else p
def pTurn (p : Nat → Int) : Nat → Int := upd p 4 (p 4 % 65536)
def pFace (p : Nat → Int) (n : Nat) : Nat → Int := pTurn (pRight (pLeft p n) n)
theorem pLeft_bd {p : Nat → Int} (n : Nat) (h : 0 ≤ p 4 ∧ p 4 ≤ 65535) : -1024 ≤ pLeft p n 4 ∧ pLeft p n 4 ≤ 65535 := by
 unfold pLeft
 split
 ·rw [upd_same]; omega
 ·omega
theorem pRight_bd {p : Nat → Int} (n : Nat) (h : -1024 ≤ p 4 ∧ p 4 ≤ 65535) : -1024 ≤ pRight p n 4 ∧ pRight p n 4 ≤ 66559 := by
 unfold pRight
 split
 ·rw [upd_same]; omega
 ·omega
theorem pFace_eq (p : Nat → Int) (n : Nat) : pFace p n = upd p 4 ((p 4 - (if bit n 1 then 1024 else 0) + (if bit n 2 then 1024 else 0)) % 65536) := by
 funext j
 unfold pFace pTurn pRight pLeft
 cases bit n 1 <;> cases bit n 2 <;> by_cases hj : j = 4 <;> simp [upd, hj]
def pBrake (p : Nat → Int) (n : Nat) : Nat → Int := if bit n 8 then upd (upd p 2 (fmul (p 2) 32768)) 3 (fmul (p 3) 32768) else p
def pPush (p : Nat → Int) (l : Int) : Nat → Int := upd (upd p 2 (padd (p 2) (hdX (p 4) l))) 3 (padd (p 3) (hdY (p 4) l))
def pThrust (p : Nat → Int) (n : Nat) : Nat → Int := if bit n 4 then pPush p 8192 else p
def lThrust (i : Nat) (p : Nat → Int) (n : Nat) (F : Int) (L : List Ev) : List Ev := if bit n 4 && (F % 8 == 0) then addE F L (evT ((i : Int) + 1) 8 8 4096 1 8 (p 0)) else L
def pDash (p : Nat → Int) (n : Nat) : Nat → Int := if bit n 32 && (p 7 == 0) then upd (pPush p 65536) 7 20 else p
def lDash (i : Nat) (p : Nat → Int) (n : Nat) (F : Int) (L : List Ev) : List Ev := if bit n 32 && (p 7 == 0) then addE F L (evT ((i : Int) + 1) 9 9 8192 4 0 (p 0)) else L
def pSlow (p : Nat → Int) : Nat → Int := upd (upd p 2 (slowX (p 2) (p 3) 61440 131072)) 3 (slowY (p 2) (p 3) 61440 131072)
theorem PlB.cool {p : Nat → Int} (h : PlB p) : PlB (pCool p) := by
 have h1 := h.cl
 have h2 := h.wd
 refine ⟨h.ax, h.ay, h.wx, h.wy, h.fc, h.hp, ?_, ?_, h.dn, h.sc⟩ <;> (simp [pCool, upd]; omega)
theorem PlB.face {p : Nat → Int} (h : PlB p) (n : Nat) : PlB (pFace p n) := by
 rw [pFace_eq]
 exact ⟨h.ax, h.ay, h.wx, h.wy, by rw [upd_same]; omega, h.hp, h.cl, h.wd, h.dn, h.sc⟩
theorem PlB.ways {p : Nat → Int} (h : PlB p) {x y : Int} (hx : F32 x) (hy : F32 y) : PlB (upd (upd p 2 x) 3 y) :=
 ⟨h.ax, h.ay, by simpa [upd] using hx, by simpa [upd] using hy, h.fc, h.hp, h.cl, h.wd, h.dn, h.sc⟩
theorem PlB.brake {p : Nat → Int} (h : PlB p) (n : Nat) : PlB (pBrake p n) := by
 unfold pBrake
 split
 ·exact h.ways (fmul_bd _ _) (fmul_bd _ _)
 ·exact h
theorem PlB.push {p : Nat → Int} (h : PlB p) (l : Int) : PlB (pPush p l) := h.ways (sat_bd _) (sat_bd _)
theorem PlB.thrust {p : Nat → Int} (h : PlB p) (n : Nat) : PlB (pThrust p n) := by
 unfold pThrust
 split
 ·exact h.push _
 ·exact h
theorem PlB.dash {p : Nat → Int} (h : PlB p) (n : Nat) : PlB (pDash p n) := by
 unfold pDash
 split
 ·have h2 := h.push 65536
  exact ⟨h2.ax, h2.ay, h2.wx, h2.wy, h2.fc, h2.hp, h2.cl, by simp [upd], h2.dn, h2.sc⟩
 ·exact h
theorem PlB.slow {p : Nat → Int} (h : PlB p) : PlB (pSlow p) := h.ways (slowX_bd _ _ _ _) (slowY_bd _ _ _ _)
theorem cell_frame {w : World} {g gp base : Nat} {S p : Nat → Int} {F : Int} {L : List Ev} {i : Nat} (h : Stg w g gp base (putP S i p) F L) (hS : S 0 = F) : w.cell? ⟨g, 0, none⟩ = some (.int .i64 F) := by
 have h1 := h.st.cell 0 (by decide)
 rw [putP_other S i p 0 (by omega), hS] at h1
 exact h1
theorem cell_at {w : World} {g gp base : Nat} {S p : Nat → Int} {F : Int} {L : List Ev} {i : Nat} (h : Stg w g gp base (putP S i p) F L) (hi : i < 2) : w.cell? ⟨g, 4 + i * 10, none⟩ = some (.int .i32 (p 0)) := h.cellP hi 0 (by decide) (k := .i32) rfl
theorem bSetB {base : Nat} {w w' : World} {g : Nat} (h : Below base w w') (hg : base ≤ g) (o : Nat) (u : Value) : Below base w (w'.setCell ⟨g, o, none⟩ u) := h.setCell (p := ⟨g, o, none⟩) hg u
end
end Go.Proofs.YtibeihcpehikoaaGreat
