/-
  A step of the game, plain: a player's shot, a whole play, the clash, a hit, a flight, the round, the step.
-/
import Derived.Test.YtnaclkaapicelaaGame2
import Derived.Test.YtnaclkaapicelaaGame3
import Derived.Test.YtnaclkaapicelaaGame4
import Derived.Test.YtnaclkaapicelaaGameR
namespace Go.Proofs.Ytnaclkaapicelaa
open Go.RowKit

def putS (S : Nat → Int) (k : Nat) (x : Nat → Int) : Nat → Int := fun j => if 24 + k * 6 ≤ j ∧ j < 24 + k * 6 + 6 then x (j - (24 + k * 6)) else S j
theorem putS_at (S : Nat → Int) (k : Nat) (x : Nat → Int) (j : Nat) (hj : j < 6) : putS S k x (24 + k * 6 + j) = x j := by
  unfold putS; rw [if_pos (by omega)]; congr 1; omega
theorem putS_other (S : Nat → Int) (k : Nat) (x : Nat → Int) (j : Nat) (hj : j < 24 + k * 6 ∨ 24 + k * 6 + 6 ≤ j) : putS S k x j = S j := by
  unfold putS; rw [if_neg (by omega)]
theorem upd_putS (S : Nat → Int) (k : Nat) (x : Nat → Int) (j : Nat) (v : Int) (hj : j < 6) : upd (putS S k x) (24 + k * 6 + j) v = putS S k (upd x j v) := by
  funext m
  by_cases h : m = 24 + k * 6 + j
  · subst h; rw [upd_same, putS_at S k _ j hj, upd_same]
  · rw [upd_other _ _ _ _ h]
    unfold putS
    by_cases h2 : 24 + k * 6 ≤ m ∧ m < 24 + k * 6 + 6
    · rw [if_pos h2, if_pos h2, upd_other _ _ _ _ (by omega)]
    · rw [if_neg h2, if_neg h2]
theorem putS_get (S : Nat → Int) (k : Nat) : putS S k (getS S k) = S := by
  funext m
  unfold putS getS
  split
  · congr 1; omega
  · rfl
theorem putS_congr (S : Nat → Int) (k : Nat) (x y : Nat → Int) (h : ∀ j, j < 6 → x j = y j) : putS S k x = putS S k y := by
  funext m
  unfold putS
  split
  · exact h _ (by omega)
  · rfl
theorem putP_congr (S : Nat → Int) (i : Nat) (x y : Nat → Int) (h : ∀ j, j < 10 → x j = y j) : putP S i x = putP S i y := by
  funext m
  unfold putP
  split
  · exact h _ (by omega)
  · rfl
theorem putP_putP (S : Nat → Int) (i : Nat) (p q : Nat → Int) : putP (putP S i p) i q = putP S i q := by
  funext m
  unfold putP
  split <;> rfl
theorem putS_putS (S : Nat → Int) (k : Nat) (p q : Nat → Int) : putS (putS S k p) k q = putS S k q := by
  funext m
  unfold putS
  split <;> rfl
theorem putS_putP (S : Nat → Int) (i k : Nat) (hi : i < 2) (p x : Nat → Int) : putS (putP S i p) k x = putP (putS S k x) i p := by
  funext m
  unfold putP putS
  by_cases h1 : 24 + k * 6 ≤ m ∧ m < 24 + k * 6 + 6
  · rw [if_pos h1, if_neg (by omega), if_pos h1]
  · rw [if_neg h1, if_neg h1]
theorem getP_putP (S : Nat → Int) (i : Nat) (p : Nat → Int) (j : Nat) (hj : j < 10) : getP (putP S i p) i j = p j := putP_at S i p j hj
theorem getP_putP_ne (S : Nat → Int) (i m : Nat) (hne : i ≠ m) (p : Nat → Int) (j : Nat) (hj : j < 10) : getP (putP S i p) m j = getP S m j := by
  unfold getP; exact putP_other S i p _ (by omega)
theorem getP_putS (S : Nat → Int) (i k : Nat) (hi : i < 2) (x : Nat → Int) (j : Nat) (hj : j < 10) : getP (putS S k x) i j = getP S i j := by
  unfold getP; exact putS_other S k x _ (by omega)
theorem getS_putP (S : Nat → Int) (i k : Nat) (hi : i < 2) (p : Nat → Int) : getS (putP S i p) k = getS S k := by
  funext j; unfold getS; exact putP_other S i p _ (by omega)
theorem getS_putS (S : Nat → Int) (k : Nat) (x : Nat → Int) (j : Nat) (hj : j < 6) : getS (putS S k x) k j = x j := putS_at S k x j hj
theorem getS_putS_ne (S : Nat → Int) (k m : Nat) (hne : k ≠ m) (x : Nat → Int) (j : Nat) (hj : j < 6) : getS (putS S k x) m j = getS S m j := by
  unfold getS; exact putS_other S k x _ (by omega)
/-- The first place of a shot that is free; 6: none is. -/
def freeFrom (S : Nat → Int) : Nat → Nat → Nat
  | 0, k => k
  | n + 1, k => if S (24 + k * 6 + 4) = 0 then k else freeFrom S n (k + 1)
def freeK (S : Nat → Int) : Nat := freeFrom S 6 0
theorem freeFrom_le (S : Nat → Int) : ∀ n k, freeFrom S n k ≤ n + k
  | 0, k => by unfold freeFrom; omega
  | n + 1, k => by
    unfold freeFrom
    split
    · omega
    · have := freeFrom_le S n (k + 1); omega
def shotOf (p : Nat → Int) (i : Nat) : Nat → Int := fun j =>
  if j = 0 then padd (p 0) (hdX (p 4) 262144) else if j = 1 then padd (p 1) (hdY (p 4) 262144) else if j = 2 then hdX (p 4) 196608 else if j = 3 then hdY (p 4) 196608 else if j = 4 then (i : Int) + 1 else 40
abbrev StL : Type := (Nat → Int) × List Ev
def fireS (i : Nat) (F : Int) (s : StL) : StL :=
  let p := getP s.1 i
  if 0 < p 6 then s else if freeK s.1 < 6 then (putP (putS s.1 (freeK s.1) (shotOf p i)) i (upd p 6 8), addE F s.2 (evT ((i : Int) + 1) 1 1 16384 5 0 (p 0))) else s
def steerP (p : Nat → Int) (n : Nat) : Nat → Int := pSlow (pDash (pThrust (pBrake (pFace (pCool p) n) n) n) n)
def steerL (i : Nat) (p : Nat → Int) (n : Nat) (F : Int) (L : List Ev) : List Ev := lDash i (pThrust (pBrake (pFace (pCool p) n) n) n) n F (lThrust i (pBrake (pFace (pCool p) n) n) n F L)
def playS (i : Nat) (n : Nat) (F : Int) (s : StL) : StL :=
  let p := getP s.1 i
  if 1 < p 8 then (putP s.1 i (upd p 8 (p 8 - 1)), s.2)
  else if p 8 = 1 then (putP (upd s.1 1 (nextZ (s.1 1))) i (pBack p (throwZ (s.1 1) 4)), addE F s.2 (evT ((i : Int) + 1) 6 6 16384 9 0 (cornX (throwZ (s.1 1) 4))))
  else
    let t : StL := (putP s.1 i (pMove (steerP p n)), lMove i (steerP p n) F (steerL i p n F s.2))
    if bit n 16 then fireS i F t else t
def clashB (S : Nat → Int) : Bool := decide (S 12 = 0) && (decide (S 22 = 0) && touchB (S 4) (S 5) 262144 (S 14) (S 15) 262144)
def clashS (F : Int) (s : StL) : StL :=
  if clashB s.1 then (upd (upd (upd (upd s.1 6 (s.1 16)) 7 (s.1 17)) 16 (s.1 6)) 17 (s.1 7), addE F s.2 (evT 0 4 4 16384 6 0 0)) else s
/-- Player i is hit. -/
def hitS (i : Nat) (F : Int) (s : StL) : StL :=
  let p := getP s.1 i
  let L1 := addE F s.2 (evT ((i : Int) + 1) 2 2 32768 8 0 (p 0))
  if 0 < p 5 - 1 then (putP s.1 i (upd p 5 (p 5 - 1)), L1)
  else (upd (putP s.1 i (upd (upd p 5 (p 5 - 1)) 8 30)) (4 + (1 - i) * 10 + 9) (s.1 (4 + (1 - i) * 10 + 9) + 1), addE F L1 (evT ((i : Int) + 1) 5 5 32768 10 0 (p 0)))
def shotNext (x : Nat → Int) : Nat → Int := upd (upd (upd x 5 (x 5 - 1)) 0 (padd (x 0) (x 2))) 1 (padd (x 1) (x 3))
/-- Whom a shot may hit. -/
def otherOf (o : Int) : Nat := if o = 2 then 0 else 1
def hitB (S x : Nat → Int) (o : Nat) : Bool := decide (S (4 + o * 10 + 8) = 0) && touchB (x 0) (x 1) 65536 (S (4 + o * 10)) (S (4 + o * 10 + 1)) 262144
def zeroS : Nat → Int := fun _ => 0
/-- A shot's flight: is it still there? -/
def flyT (k : Nat) (F : Int) (s : StL) : Bool × StL :=
  let x := getS s.1 k
  let y := shotNext x
  if x 5 - 1 = 0 then (false, (putS s.1 k (upd x 5 (x 5 - 1)), s.2))
  else if arenaB (y 0) (y 1) = false then (false, (putS s.1 k y, s.2))
  else if hitB s.1 y (otherOf (x 4)) then (false, hitS (otherOf (x 4)) F (putS s.1 k y, s.2))
  else (true, (putS s.1 k y, s.2))
def flyS (k : Nat) (F : Int) (s : StL) : StL :=
  if s.1 (24 + k * 6 + 4) = 0 then s else if (flyT k F s).1 then (flyT k F s).2 else (putS (flyT k F s).2.1 k zeroS, (flyT k F s).2.2)
def flyTo (F : Int) (s : StL) : Nat → StL
  | 0 => s
  | k + 1 => flyS k F (flyTo F s k)
def freshP (i : Nat) : Nat → Int := fun j => if j = 0 then (if i = 1 then 2097152 else -2097152) else if j = 4 then (if i = 1 then 32768 else 0) else if j = 5 then 3 else 0
def overB (S : Nat → Int) : Bool := decide (S 3 - 1 ≤ 0) || (decide (3 ≤ S 13) || decide (3 ≤ S 23))
def clearS (S : Nat → Int) : Nat → Int := fun j => if 24 ≤ j ∧ j < 60 then 0 else S j
def roundS (F : Int) (s : StL) : StL :=
  if overB s.1 then (clearS (putP (putP (upd (upd s.1 2 (s.1 2 + 1)) 3 600) 0 (freshP 0)) 1 (freshP 1)), addE F s.2 (evT 0 7 7 32768 12 0 0))
  else (upd s.1 3 (s.1 3 - 1), s.2)
def stepS (n0 n1 : Nat) (S : Nat → Int) : StL :=
  let F := S 0
  let t := roundS F (flyTo F (clashS F (playS 1 n1 F (playS 0 n0 F (S, [])))) 6)
  (upd t.1 0 (F + 1), t.2)
end Go.Proofs.Ytnaclkaapicelaa
