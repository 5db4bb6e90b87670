/-
  The walks beneath: GameS, Game6, Game7, GameT, Beg, Game8, Game9.
-/
import Derived.Outline
import Derived.BigRegion
import Derived.Test.YtnaclkaapicelaaGreatMGame2
import Derived.Test.YtnaclkaapicelaaGreatMGame3
import Derived.Test.YtnaclkaapicelaaGreatMa1
import Derived.Test.YtnaclkaapicelaaGreatGameR
import Derived.Test.YtnaclkaapicelaaGreatMild
import Derived.Test.YtnaclkaapicelaaGreatGame5
namespace Go.Proofs.YtnaclkaapicelaaGreat
open Go.RowKit

def putS (S : Nat → Int) (k : Nat) (x : Nat → Int) : Nat → Int := fun j => if 24 + k * 6 ≤ j ∧ j < 24 + k * 6 + 6 then x (j - (24 + k * 6)) else S j
theorem putS_at (S : Nat → Int) (k : Nat) (x : Nat → Int) (j : Nat) (hj : j < 6) : putS S k x (24 + k * 6 + j) = x j := by
  unfold putS; rw [if_pos (by omega)]; congr 1; omega
theorem putS_other (S : Nat → Int) (k : Nat) (x : Nat → Int) (j : Nat) (hj : j < 24 + k * 6 ∨ 24 + k * 6 + 6 ≤ j) : putS S k x j = S j := by
  unfold putS; rw [if_neg (by omega)]
theorem upd_putS (S : Nat → Int) (k : Nat) (x : Nat → Int) (j : Nat) (v : Int) (hj : j < 6) : upd (putS S k x) (24 + k * 6 + j) v = putS S k (upd x j v) := by
  funext m
  by_cases h : m = 24 + k * 6 + j
  · subst h; rw [upd_same, putS_at S k _ j hj, upd_same]
  · rw [upd_other _ _ _ _ h]
    unfold putS
    by_cases h2 : 24 + k * 6 ≤ m ∧ m < 24 + k * 6 + 6
    · rw [if_pos h2, if_pos h2, upd_other _ _ _ _ (by omega)]
    · rw [if_neg h2, if_neg h2]
theorem putS_get (S : Nat → Int) (k : Nat) : putS S k (getS S k) = S := by
  funext m
  unfold putS getS
  split
  · congr 1; omega
  · rfl
theorem putS_congr (S : Nat → Int) (k : Nat) (x y : Nat → Int) (h : ∀ j, j < 6 → x j = y j) : putS S k x = putS S k y := by
  funext m
  unfold putS
  split
  · exact h _ (by omega)
  · rfl
theorem putP_congr (S : Nat → Int) (i : Nat) (x y : Nat → Int) (h : ∀ j, j < 10 → x j = y j) : putP S i x = putP S i y := by
  funext m
  unfold putP
  split
  · exact h _ (by omega)
  · rfl
theorem putP_putP (S : Nat → Int) (i : Nat) (p q : Nat → Int) : putP (putP S i p) i q = putP S i q := by
  funext m
  unfold putP
  split <;> rfl
theorem putS_putS (S : Nat → Int) (k : Nat) (p q : Nat → Int) : putS (putS S k p) k q = putS S k q := by
  funext m
  unfold putS
  split <;> rfl
theorem putS_putP (S : Nat → Int) (i k : Nat) (hi : i < 2) (p x : Nat → Int) : putS (putP S i p) k x = putP (putS S k x) i p := by
  funext m
  unfold putP putS
  by_cases h1 : 24 + k * 6 ≤ m ∧ m < 24 + k * 6 + 6
  · rw [if_pos h1, if_neg (by omega), if_pos h1]
  · rw [if_neg h1, if_neg h1]
theorem getP_putP (S : Nat → Int) (i : Nat) (p : Nat → Int) (j : Nat) (hj : j < 10) : getP (putP S i p) i j = p j := putP_at S i p j hj
theorem getP_putP_ne (S : Nat → Int) (i m : Nat) (hne : i ≠ m) (p : Nat → Int) (j : Nat) (hj : j < 10) : getP (putP S i p) m j = getP S m j := by
  unfold getP; exact putP_other S i p _ (by omega)
theorem getP_putS (S : Nat → Int) (i k : Nat) (hi : i < 2) (x : Nat → Int) (j : Nat) (hj : j < 10) : getP (putS S k x) i j = getP S i j := by
  unfold getP; exact putS_other S k x _ (by omega)
theorem getS_putP (S : Nat → Int) (i k : Nat) (hi : i < 2) (p : Nat → Int) : getS (putP S i p) k = getS S k := by
  funext j; unfold getS; exact putP_other S i p _ (by omega)
theorem getS_putS (S : Nat → Int) (k : Nat) (x : Nat → Int) (j : Nat) (hj : j < 6) : getS (putS S k x) k j = x j := putS_at S k x j hj
theorem getS_putS_ne (S : Nat → Int) (k m : Nat) (hne : k ≠ m) (x : Nat → Int) (j : Nat) (hj : j < 6) : getS (putS S k x) m j = getS S m j := by
  unfold getS; exact putS_other S k x _ (by omega)
/-- The first place of a shot that is free; 6: none is. -/
def freeFrom (S : Nat → Int) : Nat → Nat → Nat
  | 0, k => k
  | n + 1, k => if S (24 + k * 6 + 4) = 0 then k else freeFrom S n (k + 1)
def freeK (S : Nat → Int) : Nat := freeFrom S 6 0
def shotOf (p : Nat → Int) (i : Nat) : Nat → Int := fun j =>
  if j = 0 then padd (p 0) (hdX (p 4) 262144) else if j = 1 then padd (p 1) (hdY (p 4) 262144) else if j = 2 then hdX (p 4) 196608 else if j = 3 then hdY (p 4) 196608 else if j = 4 then (i : Int) + 1 else 40
abbrev StL : Type := (Nat → Int) × List Ev
def fireS (i : Nat) (F : Int) (s : StL) : StL :=
  let p := getP s.1 i
  if 0 < p 6 then s else if freeK s.1 < 6 then (putP (putS s.1 (freeK s.1) (shotOf p i)) i (upd p 6 8), addE F s.2 (evT ((i : Int) + 1) 1 1 16384 5 0 (p 0))) else s
def steerP (p : Nat → Int) (n : Nat) : Nat → Int := pSlow (pDash (pThrust (pBrake (pFace (pCool p) n) n) n) n)
def steerL (i : Nat) (p : Nat → Int) (n : Nat) (F : Int) (L : List Ev) : List Ev := lDash i (pThrust (pBrake (pFace (pCool p) n) n) n) n F (lThrust i (pBrake (pFace (pCool p) n) n) n F L)
def playS (i : Nat) (n : Nat) (F : Int) (s : StL) : StL :=
  let p := getP s.1 i
  if 1 < p 8 then (putP s.1 i (upd p 8 (p 8 - 1)), s.2)
  else if p 8 = 1 then (putP (upd s.1 1 (nextZ (s.1 1))) i (pBack p (throwZ (s.1 1) 4)), addE F s.2 (evT ((i : Int) + 1) 6 6 16384 9 0 (cornX (throwZ (s.1 1) 4))))
  else
    let t : StL := (putP s.1 i (pMove (steerP p n)), lMove i (steerP p n) F (steerL i p n F s.2))
    if bit n 16 then fireS i F t else t
def clashB (S : Nat → Int) : Bool := decide (S 12 = 0) && (decide (S 22 = 0) && touchB (S 4) (S 5) 262144 (S 14) (S 15) 262144)
def clashS (F : Int) (s : StL) : StL :=
  if clashB s.1 then (upd (upd (upd (upd s.1 6 (s.1 16)) 7 (s.1 17)) 16 (s.1 6)) 17 (s.1 7), addE F s.2 (evT 0 4 4 16384 6 0 0)) else s
/-- Player i is hit. -/
def hitS (i : Nat) (F : Int) (s : StL) : StL :=
  let p := getP s.1 i
  let L1 := addE F s.2 (evT ((i : Int) + 1) 2 2 32768 8 0 (p 0))
  if 0 < p 5 - 1 then (putP s.1 i (upd p 5 (p 5 - 1)), L1)
  else (upd (putP s.1 i (upd (upd p 5 (p 5 - 1)) 8 30)) (4 + (1 - i) * 10 + 9) (s.1 (4 + (1 - i) * 10 + 9) + 1), addE F L1 (evT ((i : Int) + 1) 5 5 32768 10 0 (p 0)))
def shotNext (x : Nat → Int) : Nat → Int := upd (upd (upd x 5 (x 5 - 1)) 0 (padd (x 0) (x 2))) 1 (padd (x 1) (x 3))
/-- Whom a shot may hit. -/
def otherOf (o : Int) : Nat := if o = 2 then 0 else 1
def hitB (S x : Nat → Int) (o : Nat) : Bool := decide (S (4 + o * 10 + 8) = 0) && touchB (x 0) (x 1) 65536 (S (4 + o * 10)) (S (4 + o * 10 + 1)) 262144
def zeroS : Nat → Int := fun _ => 0
/-- A shot's flight: is it still there? -/
def flyT (k : Nat) (F : Int) (s : StL) : Bool × StL :=
  let x := getS s.1 k
  let y := shotNext x
  if x 5 - 1 = 0 then (false, (putS s.1 k (upd x 5 (x 5 - 1)), s.2))
  else if arenaB (y 0) (y 1) = false then (false, (putS s.1 k y, s.2))
  else if hitB s.1 y (otherOf (x 4)) then (false, hitS (otherOf (x 4)) F (putS s.1 k y, s.2))
  else (true, (putS s.1 k y, s.2))
def flyS (k : Nat) (F : Int) (s : StL) : StL :=
  if s.1 (24 + k * 6 + 4) = 0 then s else if (flyT k F s).1 then (flyT k F s).2 else (putS (flyT k F s).2.1 k zeroS, (flyT k F s).2.2)
def flyTo (F : Int) (s : StL) : Nat → StL
  | 0 => s
  | k + 1 => flyS k F (flyTo F s k)
def freshP (i : Nat) : Nat → Int := fun j => if j = 0 then (if i = 1 then 2097152 else -2097152) else if j = 4 then (if i = 1 then 32768 else 0) else if j = 5 then 3 else 0
def overB (S : Nat → Int) : Bool := decide (S 3 - 1 ≤ 0) || (decide (3 ≤ S 13) || decide (3 ≤ S 23))
def clearS (S : Nat → Int) : Nat → Int := fun j => if 24 ≤ j ∧ j < 60 then 0 else S j
def roundS (F : Int) (s : StL) : StL :=
  if overB s.1 then (clearS (putP (putP (upd (upd s.1 2 (s.1 2 + 1)) 3 600) 0 (freshP 0)) 1 (freshP 1)), addE F s.2 (evT 0 7 7 32768 12 0 0))
  else (upd s.1 3 (s.1 3 - 1), s.2)
def stepS (n0 n1 : Nat) (S : Nat → Int) : StL :=
  let F := S 0
  let t := roundS F (flyTo F (clashS F (playS 1 n1 F (playS 0 n0 F (S, [])))) 6)
  (upd t.1 0 (F + 1), t.2)
end Go.Proofs.YtnaclkaapicelaaGreat

namespace Go.Proofs.YtnaclkaapicelaaGreat
open Go.RowKit
set_option maxRecDepth 100000
theorem six_far {a b c d e f : Value} (W : World) (g o m : Nat) (h : m < o) : (((((((W).setCell ⟨g, o, none⟩ a).setCell ⟨g, o + 1, none⟩ b).setCell ⟨g, o + 2, none⟩ c).setCell ⟨g, o + 3, none⟩ d).setCell ⟨g, o + 4, none⟩ e).setCell ⟨g, o + 5, none⟩ f).cell? ⟨g, m, none⟩ = W.cell? ⟨g, m, none⟩ := by
  rw [World.cell?_setCell_other, World.cell?_setCell_other, World.cell?_setCell_other, World.cell?_setCell_other, World.cell?_setCell_other, World.cell?_setCell_other]
  all_goals (intro e; injection e; omega)
section
variable {w w' : World} {g gp base : Nat} {S x : Nat → Int} {F : Int} {L : List Ev} {k : Nat}
theorem Stg.setS (h : Stg w g gp base (putS S k x) F L) (hk : k < 6) (j : Nat) (hj : j < 6) {kd : IntKind} (hd : kdP j = kd) (v : Int) : Stg (w.setCell ⟨g, 24 + k * 6 + j, none⟩ (.int kd v)) g gp base (putS S k (upd x j v)) F L := by
  rw [← upd_putS S k x j v hj]
  exact h.set _ (by omega) (by rw [kdS_s k j hj, hd]) v
theorem Stg.cellS (h : Stg w g gp base S F L) (hk : k < 6) (j : Nat) (hj : j < 6) {kd : IntKind} (hd : kdP j = kd) : w.cell? ⟨g, 24 + k * 6 + j, none⟩ = some (.int kd (S (24 + k * 6 + j))) := by
  rw [h.st.cell _ (by omega), kdS_s k j hj, hd]
theorem Stg.cellS0 (h : Stg w g gp base S F L) (hk : k < 6) : w.cell? ⟨g, 24 + k * 6, none⟩ = some (.int .i32 (S (24 + k * 6))) := h.cellS hk 0 (by decide) rfl
theorem Stg.as (h : Stg w g gp base S F L) {S' : Nat → Int} (e : S = S') : Stg w g gp base S' F L := e ▸ h
end
theorem bSetB6 {base : Nat} {w w' : World} {g : Nat} (h : Below base w w') (hg : base ≤ g) (o : Nat) (u : Value) : Below base w (w'.setCell ⟨g, o, none⟩ u) := h.setCell (p := ⟨g, o, none⟩) hg u
theorem freeFrom_step (S : Nat → Int) (n k : Nat) (h : S (24 + k * 6 + 4) ≠ 0) : freeFrom S (n + 1) k = freeFrom S n (k + 1) := by rw [freeFrom, if_neg h]
theorem freeFrom_here (S : Nat → Int) (n k : Nat) (h : S (24 + k * 6 + 4) = 0) : freeFrom S (n + 1) k = k := by rw [freeFrom, if_pos h]
theorem shotOf_six (x p : Nat → Int) (i : Nat) (S : Nat → Int) (k : Nat) : putS S k (upd (upd (upd (upd (upd (upd x 0 (padd (p 0) (hdX (p 4) 262144))) 1 (padd (p 1) (hdY (p 4) 262144))) 2 (hdX (p 4) 196608)) 3 (hdY (p 4) 196608)) 4 ((i : Int) + 1)) 5 40) = putS S k (shotOf p i) := by
  refine putS_congr _ _ _ _ fun j hj => ?_
  have hj : j = 0 ∨ j = 1 ∨ j = 2 ∨ j = 3 ∨ j = 4 ∨ j = 5 := by omega
  rcases hj with rfl | rfl | rfl | rfl | rfl | rfl <;> rfl
section
variable {g gp base : Nat} {S p : Nat → Int} {F : Int} {L : List Ev} {w : World} {i : Nat}
theorem fireS_none (h6 : p 6 = 0) (hf : freeK (putP S i p) = 6) : fireS i F (putP S i p, L) = (putP S i p, L) := by
  unfold fireS
  simp only [getP_putP S i p 6 (by decide), h6, hf]
  rfl
theorem fireS_some (hi : i < 2) {k : Nat} (hk : k < 6) (h6 : p 6 = 0) (hf : freeK (putP S i p) = k) : fireS i F (putP S i p, L) = (putP (putS S k (shotOf p i)) i (upd p 6 8), addE F L (evT ((i : Int) + 1) 1 1 16384 5 0 (p 0))) := by
  have hg : ∀ j, j < 10 → getP (putP S i p) i j = p j := fun j hj => getP_putP S i p j hj
  unfold fireS
  simp only [hg 6 (by decide), h6, hf, hg 0 (by decide)]
  rw [if_neg (by decide), if_pos hk]
  congr 1
  rw [putS_putP S i k hi, putP_putP]
  have e1 : putS S k (shotOf (getP (putP S i p) i) i) = putS S k (shotOf p i) := by
    refine putS_congr _ _ _ _ fun j hj => ?_
    unfold shotOf
    rw [hg 0 (by decide), hg 1 (by decide), hg 4 (by decide)]
  rw [e1]
  refine putP_congr _ _ _ _ fun j hj => ?_
  unfold upd
  split
  · rfl
  · exact hg j hj
set_option maxHeartbeats 4000000 in
theorem gfire_any (h : Stg w g gp base (putP S i p) F L) (hi : i < 2) (hp : PlB p) (hF : 0 ≤ F ∧ F ≤ 1073741824) (hL : L.length ≤ 14) :
    Calls Tryz.prog 60 #[.pointer (some ⟨g, 0, none⟩), .int .i64 i] w fun e w' => e = .returned (.tuple #[]) ∧ Stg w' g gp base (fireS i F (putP S i p, L)).1 F (fireS i F (putP S i p, L)).2 ∧ Below base w w' := by
  have H := Lib.hid h
  have HP := Lib.hid hp
  have hi2 : (i : Int) < 2 := by omega
  have hbg := h.bg
  have hlt := h.lt
  have c0 : w.cell? ⟨g, 4 + i * 10, none⟩ = some (.int .i32 (p 0)) := h.cellP hi 0 (by decide) (k := .i32) rfl
  have c1 := h.cellP hi 1 (by decide) (k := .i32) rfl
  have c4 := h.cellP hi 4 (by decide) (k := .i64) rfl
  have c6 := h.cellP hi 6 (by decide) (k := .i64) rfl
  have b6 := hp.cl
  have b4 := hp.fc
  clear h hp
  by_cases h6 : 0 < p 6
  · have HE := Lib.hid (show fireS i F (putP S i p, L) = (putP S i p, L) by
      unfold fireS
      simp only [getP_putP S i p 6 (by decide)]
      rw [if_pos h6])
    go_enter Tryz.func60, Tryz.ntmps60
    go_wp2
    refine bodyPost_ret (results_none rfl _ _ _) rfl ⟨rfl, ?_, Below.refl _ _⟩
    rw [HE.out]
    exact H.out
  · have h6' : p 6 = 0 := by omega
    have H6 := Lib.hid h6'
    rw [h6'] at c6
    clear h6' h6 b6
    go_enter Tryz.func60, Tryz.ntmps60
    go_wp2
    go_loopw [17] (fun v wr => ∃ k : Nat, k ≤ 6 ∧ v = .int .i64 k ∧ Hid (freeFrom (putP S i p) (6 - k) k = freeK (putP S i p)) ∧ wr = w) (fun v _ => 6 - (intOf v).toNat)
    case atStart => exact ⟨0, by decide, rfl, Lib.hid rfl, rfl⟩
    case round =>
      obtain ⟨k, hk, rfl, hfr, rfl⟩ := hrel
      by_cases hlt6 : k < 6
      · have ho := H.out.cellS hlt6 4 (by decide) (kd := .i64) rfl
        have hk2 : (k : Int) < 6 := by omega
        by_cases h0 : putP S i p (24 + k * 6 + 4) = 0
        · have hfk : freeK (putP S i p) = k := by
            rw [← hfr.out, show 6 - k = (5 - k) + 1 by omega, freeFrom_here _ _ _ h0]
          have HE := Lib.hid (fireS_some (F := F) (L := L) hi hlt6 H6.out hfk)
          rw [h0] at ho
          clear h0 hfk hfr
          go_wp2
          have hwi : IntKind.i64.wrap ((i : Int) + 1) = (i : Int) + 1 := IntWalk.i64_in _ (by omega)
          have HST := Lib.hid H.out.drew
          have HBB := Lib.hid (Below.refl base wr).drew
          go_region_held3 (fun w' => w'.cell? ⟨g, 4 + i * 10, none⟩ = some (.int .i32 (p 0)) ∧ w'.cell? ⟨g, 4 + i * 10 + 1, none⟩ = some (.int .i32 (p 1)) ∧ w'.cell? ⟨g, 4 + i * 10 + 4, none⟩ = some (.int .i64 (p 4)))
            (first | go_keep | (go_split_ands; refine ⟨?_, ?_, ?_⟩ <;> (rw [kn.cell (by simp; omega)]; assumption)) | (go_split_ands; refine ⟨?_, ?_, ?_⟩ <;> (rw [six_far _ _ _ _ (by omega)]; assumption)))
            (first
              | (go_at_call 104; (first | (with_reducible refine (gheading_any _ 262144 (by unfold F32; omega) _).mono ?_) | (with_reducible refine (gheading_any _ 196608 (by unfold F32; omega) _).mono ?_)); rintro e wn ⟨rfl, kn⟩; have hgl : g < wn.heap.size := (by have hh := kn.size; (try simp at hh); (clear hwi); omega); have HBB := Lib.hid (HBB.out.trans (kn.mono HST.out.bw)); have HST := Lib.hid (HST.out.on kn); have q0 := HST.out.cellS0 hlt6; have q1 := HST.out.cellS hlt6 1 (by decide) (kd := .i32) rfl; have q2 := HST.out.cellS hlt6 2 (by decide) (kd := .i32) rfl; have q3 := HST.out.cellS hlt6 3 (by decide) (kd := .i32) rfl; have q4 := HST.out.cellS hlt6 4 (by decide) (kd := .i64) rfl; have q5 := HST.out.cellS hlt6 5 (by decide) (kd := .i64) rfl; have z0 := HST.out.st.frozen (24 + k * 6); have z1 := HST.out.st.frozen (24 + k * 6 + 1); have z2 := HST.out.st.frozen (24 + k * 6 + 2); have z3 := HST.out.st.frozen (24 + k * 6 + 3); have z4 := HST.out.st.frozen (24 + k * 6 + 4); have z5 := HST.out.st.frozen (24 + k * 6 + 5))
              | (go_at_call 63; refine (sAdd_any HP.out.ax HP.out.ay (hdX_bd _ _) (hdY_bd _ _) _).mono ?_; rintro e wn ⟨rfl, kn⟩; have hgl : g < wn.heap.size := (by have hh := kn.size; (try simp at hh); (clear hwi); omega); have HBB := Lib.hid (HBB.out.trans (kn.mono HST.out.bw)); have HST := Lib.hid (HST.out.on kn); have q0 := HST.out.cellS0 hlt6; have q1 := HST.out.cellS hlt6 1 (by decide) (kd := .i32) rfl; have q2 := HST.out.cellS hlt6 2 (by decide) (kd := .i32) rfl; have q3 := HST.out.cellS hlt6 3 (by decide) (kd := .i32) rfl; have q4 := HST.out.cellS hlt6 4 (by decide) (kd := .i64) rfl; have q5 := HST.out.cellS hlt6 5 (by decide) (kd := .i64) rfl; have z0 := HST.out.st.frozen (24 + k * 6); have z1 := HST.out.st.frozen (24 + k * 6 + 1); have z2 := HST.out.st.frozen (24 + k * 6 + 2); have z3 := HST.out.st.frozen (24 + k * 6 + 3); have z4 := HST.out.st.frozen (24 + k * 6 + 4); have z5 := HST.out.st.frozen (24 + k * 6 + 5)))
          all_goals
            clear hwi
            have h6 := Lib.hid (((((((HST.out.as (putS_get _ k).symm).setS hlt6 0 (by decide) (kd := .i32) rfl (padd (p 0) (hdX (p 4) 262144))).setS hlt6 1 (by decide) (kd := .i32) rfl (padd (p 1) (hdY (p 4) 262144))).setS hlt6 2 (by decide) (kd := .i32) rfl (hdX (p 4) 196608)).setS hlt6 3 (by decide) (kd := .i32) rfl (hdY (p 4) 196608)).setS hlt6 4 (by decide) (kd := .i64) rfl ((i : Int) + 1)).setS hlt6 5 (by decide) (kd := .i64) rfl 40)
            have hb6 := Lib.hid (bSetB6 (bSetB6 (bSetB6 (bSetB6 (bSetB6 (bSetB6 HBB.out hbg (24 + k * 6 + 0) (.int .i32 (padd (p 0) (hdX (p 4) 262144)))) hbg (24 + k * 6 + 1) (.int .i32 (padd (p 1) (hdY (p 4) 262144)))) hbg (24 + k * 6 + 2) (.int .i32 (hdX (p 4) 196608))) hbg (24 + k * 6 + 3) (.int .i32 (hdY (p 4) 196608))) hbg (24 + k * 6 + 4) (.int .i64 ((i : Int) + 1))) hbg (24 + k * 6 + 5) (.int .i64 40))
            rw [shotOf_six, putS_putP _ i k hi] at h6
            obtain ⟨w6, hw6⟩ : ∃ w6, w6 = (((((((wn).setCell ⟨g, 24 + k * 6, none⟩ (.int .i32 (padd (p 0) (hdX (p 4) 262144)))).setCell ⟨g, 24 + k * 6 + 1, none⟩ (.int .i32 (padd (p 1) (hdY (p 4) 262144)))).setCell ⟨g, 24 + k * 6 + 2, none⟩ (.int .i32 (hdX (p 4) 196608))).setCell ⟨g, 24 + k * 6 + 3, none⟩ (.int .i32 (hdY (p 4) 196608))).setCell ⟨g, 24 + k * 6 + 4, none⟩ (.int .i64 ((i : Int) + 1))).setCell ⟨g, 24 + k * 6 + 5, none⟩ (.int .i64 40)) := ⟨_, rfl⟩
            have h7 : Stg w6 g gp base (putP (putS S k (shotOf p i)) i p) F L := by rw [hw6]; exact h6.out
            have hb7 : Below base wr w6 := by rw [hw6]; exact hb6.out
            rw [← hw6]
            clear hw6 h6 hb6 q0 q1 q2 q3 q4 q5 z0 z1 z2 z3 z4 z5
            have d6 := h7.cellP hi 6 (by decide) (k := .i64) rfl
            have y6 := h7.st.frozen (4 + i * 10 + 6)
            have d0 : w6.cell? ⟨g, 4 + i * 10, none⟩ = some (.int .i32 (p 0)) := h7.cellP hi 0 (by decide) (k := .i32) rfl
            have hl7 := h7.lt
            have H8 := Lib.hid (h7.setP hi 6 (by decide) (k := .i64) rfl 8)
            have HB8 := Lib.hid (bSetB6 hb7 hbg (4 + i * 10 + 6) (.int .i64 8))
            clear h7 hb7
            go_wp2_with fail
            refine (gtell_any ((i : Int) + 1) 1 1 16384 5 0 (p 0) H8.out HP.out.ax (evT_ok F _ _ _ _ _ _ _ hF (by omega) (by decide) (by decide) (by decide) (by decide) (by decide) 0 (by decide)) (by omega) (Nat.le_trans (cntE_le _ _ _) (by omega))).mono ?_
            rintro e w9 ⟨rfl, h9, k9⟩
            have H9 := Lib.hid h9
            have HB9 := Lib.hid (HB8.out.trans k9)
            clear h9 k9
            go_wp2
            refine bodyPost_ret (results_none rfl _ _ _) rfl ⟨rfl, ?_, HB9.out⟩
            rw [HE.out]
            exact H9.out
        · have HN := Lib.hid (freeFrom_step (putP S i p) (5 - k) k h0)
          have h0' : (putP S i p (24 + k * 6 + 4) == 0) = false := by simpa using h0
          have hne : (putP S i p (24 + k * 6 + 4) != 0) = true := by simpa using h0
          obtain ⟨v, hv⟩ : ∃ v, putP S i p (24 + k * 6 + 4) = v := ⟨_, rfl⟩
          rw [hv] at ho h0' hne
          clear h0 hv
          go_wp2
          go_roundw
          case rel => exact ⟨k + 1, by omega, by go_num, Lib.hid (by rw [← hfr.out, show 6 - (k + 1) = 5 - k by omega, show 6 - k = 5 - k + 1 by omega, HN.out]), (by first | rfl | trivial)⟩
          case measure => simp [intOf]; omega
      · obtain rfl : k = 6 := by omega
        have HE := Lib.hid (fireS_none (F := F) (L := L) H6.out (hfr.out.symm))
        clear hfr
        go_wp2
        go_end0
        rw [HE.out]
        exact ⟨rfl, H.out, Below.refl _ _⟩
end
end Go.Proofs.YtnaclkaapicelaaGreat

namespace Go.Proofs.YtnaclkaapicelaaGreat
open Go.RowKit
set_option maxRecDepth 100000
theorem cntE_add (F : Int) (L : List Ev) (x : Ev) (em kd : Int) : cntE (addE F L x) em kd = cntE L em kd + if sameK em kd x then 1 else 0 := cntE_ins L _ _ em kd
theorem bSetB7 {base : Nat} {w w' : World} {g : Nat} (h : Below base w w') (hg : base ≤ g) (o : Nat) (u : Value) : Below base w (w'.setCell ⟨g, o, none⟩ u) := h.setCell (p := ⟨g, o, none⟩) hg u
theorem upd_get (S : Nat → Int) (i j : Nat) (v : Int) (hj : j < 10) : putP S i (upd (getP S i) j v) = upd S (4 + i * 10 + j) v := by
  rw [← upd_putP _ _ _ _ _ hj, putP_get]
section
variable {g gp base : Nat} {S : Nat → Int} {F : Int} {L : List Ev} {w : World}
theorem hitS_up (i : Nat) (S : Nat → Int) (h : 0 < getP S i 5 - 1) : hitS i F (S, L) = (putP S i (upd (getP S i) 5 (getP S i 5 - 1)), addE F L (evT ((i : Int) + 1) 2 2 32768 8 0 (getP S i 0))) := by
  unfold hitS; exact if_pos h
theorem hitS_dn (i : Nat) (S : Nat → Int) (h : ¬ 0 < getP S i 5 - 1) : hitS i F (S, L) = (upd (putP S i (upd (upd (getP S i) 5 (getP S i 5 - 1)) 8 30)) (4 + (1 - i) * 10 + 9) (S (4 + (1 - i) * 10 + 9) + 1), addE F (addE F L (evT ((i : Int) + 1) 2 2 32768 8 0 (getP S i 0))) (evT ((i : Int) + 1) 5 5 32768 10 0 (getP S i 0))) := by
  unfold hitS; exact if_neg h

theorem hitS_0_up (S : Nat → Int) (h : 0 < S 9 - 1) : hitS 0 F (S, L) = (upd S 9 (S 9 - 1), addE F L (evT 1 2 2 32768 8 0 (S 4))) := by
  refine (hitS_up 0 S h).trans ?_
  rw [upd_get S 0 5 _ (by decide)]
  rfl
theorem hitS_0_dn (S : Nat → Int) (h : ¬ 0 < S 9 - 1) : hitS 0 F (S, L) = (upd (upd (upd S 9 (S 9 - 1)) 12 30) 23 (S 23 + 1), addE F (addE F L (evT 1 2 2 32768 8 0 (S 4))) (evT 1 5 5 32768 10 0 (S 4))) := by
  refine (hitS_dn 0 S h).trans ?_
  rw [← upd_putP _ 0 _ 8 _ (by decide), upd_get S 0 5 _ (by decide)]
  rfl
set_option maxHeartbeats 4000000 in
theorem ghit_0 (h : Stg w g gp base S F L) (hF : 0 ≤ F ∧ F ≤ 1073741824) (hx : F32 (S 4)) (h5 : 1 ≤ S 9 ∧ S 9 ≤ 3) (h9 : 0 ≤ S 23 ∧ S 23 ≤ 100) (hL : L.length < 63) (hc2 : cntE L 1 2 ≤ 15) (hc5 : cntE L 1 5 ≤ 15) :
    Calls Tryz.prog 66 #[.pointer (some ⟨g, 0, none⟩), .int .i64 0] w fun e w' => e = .returned (.tuple #[]) ∧ Stg w' g gp base (hitS 0 F (S, L)).1 F (hitS 0 F (S, L)).2 ∧ Below base w w' := by
  have H := Lib.hid h
  have HX := Lib.hid hx
  have hbg := h.bg
  have hlt := h.lt
  have a0 : w.cell? ⟨g, 4, none⟩ = some (.int .i32 (S 4)) := h.st.cell 4 (by decide)
  have a5 : w.cell? ⟨g, 9, none⟩ = some (.int .i64 (S 9)) := h.st.cell 9 (by decide)
  have a8 : w.cell? ⟨g, 12, none⟩ = some (.int .i64 (S 12)) := h.st.cell 12 (by decide)
  have a9 : w.cell? ⟨g, 23, none⟩ = some (.int .i64 (S 23)) := h.st.cell 23 (by decide)
  have z5 := h.st.frozen 9
  obtain ⟨h5a, h5b⟩ := h5
  obtain ⟨h9a, h9b⟩ := h9
  have H1 := Lib.hid (h.set 9 (by decide) (k := .i64) rfl (S 9 - 1))
  have HB1 := Lib.hid (bSetB7 (Below.refl base w) hbg 9 (.int .i64 (S 9 - 1)))
  have HOK2 := Lib.hid (evT_ok F 1 2 2 32768 8 0 (S 4) hF (by decide) (by decide) (by decide) (by decide) (by decide) (by decide) 0 (by decide))
  have HOK5 := Lib.hid (evT_ok F 1 5 5 32768 10 0 (S 4) hF (by decide) (by decide) (by decide) (by decide) (by decide) (by decide) 0 (by decide))
  have HC2 := Lib.hid hc2
  have HC5 := Lib.hid (show cntE (addE F L (evT 1 2 2 32768 8 0 (S 4))) 1 5 ≤ 15 by
    rw [cntE_add, if_neg (by simp [sameK, evT])]
    exact hc5)
  have hln := addE_length F L (evT 1 2 2 32768 8 0 (S 4))
  have HLN := Lib.hid hln
  obtain ⟨v, hv⟩ : ∃ v, S 9 - 1 = v := ⟨_, rfl⟩
  have hv0 : 0 ≤ v := by omega
  have hv3 : v ≤ 2 := by omega
  clear h hx hc2 hc5 hln
  by_cases hup : 0 < v
  · have HE := Lib.hid (hitS_0_up (F := F) (L := L) S (by rw [hv]; exact hup))
    rw [hv] at H1 HB1 HE
    have HV := Lib.hid hv
    have hsub : IntKind.i64.wrap (S 9 - 1) = S 9 - 1 := by simp only [IntKind.wrap_i64]; omega
    rw [hv] at hsub
    clear hv hsub
    go_enter Tryz.func66, Tryz.ntmps66
    go_wp2_with fail
    rw [HV.out]
    refine (gtell_any 1 2 2 32768 8 0 (S 4) H1.out HX.out HOK2.out (by omega) HC2.out).mono ?_
    rintro e w2 ⟨rfl, h2, k2⟩
    have b5 : w2.cell? ⟨g, 9, none⟩ = some (.int .i64 v) := h2.st.cell 9 (by decide)
    have hl2 := h2.lt
    have H2 := Lib.hid h2
    have HB2 := Lib.hid (HB1.out.trans k2)
    clear h2 k2
    go_wp2
    refine bodyPost_ret (results_none rfl _ _ _) rfl ⟨rfl, ?_, HB2.out⟩
    rw [HE.out]
    exact H2.out
  · have HE := Lib.hid (hitS_0_dn (F := F) (L := L) S (by rw [hv]; exact hup))
    rw [hv] at H1 HB1 HE
    have HV := Lib.hid hv
    clear hv
    have hle : v ≤ 0 := by omega
    clear hup
    go_enter Tryz.func66, Tryz.ntmps66
    go_wp2_with fail
    rw [HV.out]
    refine (gtell_any 1 2 2 32768 8 0 (S 4) H1.out HX.out HOK2.out (by omega) HC2.out).mono ?_
    rintro e w2 ⟨rfl, h2, k2⟩
    have b0 : w2.cell? ⟨g, 4, none⟩ = some (.int .i32 (S 4)) := h2.st.cell 4 (by decide)
    have b5 : w2.cell? ⟨g, 9, none⟩ = some (.int .i64 v) := h2.st.cell 9 (by decide)
    have b8 : w2.cell? ⟨g, 12, none⟩ = some (.int .i64 (S 12)) := h2.st.cell 12 (by decide)
    have b9 : w2.cell? ⟨g, 23, none⟩ = some (.int .i64 (S 23)) := h2.st.cell 23 (by decide)
    have y8 := h2.st.frozen 12
    have y9 := h2.st.frozen 23
    have hl2 := h2.lt
    have H3 := Lib.hid ((h2.set 12 (by decide) (k := .i64) rfl 30).set 23 (by decide) (k := .i64) rfl (S 23 + 1)).drew
    have HB3 := Lib.hid (bSetB7 (bSetB7 (HB1.out.trans k2) hbg 12 (.int .i64 30)) hbg 23 (.int .i64 (S 23 + 1))).drew
    clear h2 k2
    go_wp2
    go_big_region
    obtain ⟨w3, hw3⟩ : ∃ w3, ((w2.setCell ⟨g, 12, none⟩ (.int .i64 30)).setCell ⟨g, 23, none⟩ (.int .i64 (S 23 + 1))).drew = w3 := ⟨_, rfl⟩
    rw [hw3] at H3 HB3 ⊢
    clear hw3
    have d0 : w3.cell? ⟨g, 4, none⟩ = some (.int .i32 (S 4)) := H3.out.st.cell 4 (by decide)
    have hl3 := H3.out.lt
    go_wp2_with fail
    refine (gtell_any 1 5 5 32768 10 0 (S 4) H3.out HX.out HOK5.out (by rw [HLN.out]; omega) HC5.out).mono ?_
    rintro e w4 ⟨rfl, h4, k4⟩
    have H4 := Lib.hid h4
    have HB4 := Lib.hid (HB3.out.trans k4)
    clear h4 k4
    go_wp2
    go_end0
    rw [HE.out]
    exact ⟨rfl, H4.out, HB4.out⟩

theorem hitS_1_up (S : Nat → Int) (h : 0 < S 19 - 1) : hitS 1 F (S, L) = (upd S 19 (S 19 - 1), addE F L (evT 2 2 2 32768 8 0 (S 14))) := by
  refine (hitS_up 1 S h).trans ?_
  rw [upd_get S 1 5 _ (by decide)]
  rfl
theorem hitS_1_dn (S : Nat → Int) (h : ¬ 0 < S 19 - 1) : hitS 1 F (S, L) = (upd (upd (upd S 19 (S 19 - 1)) 22 30) 13 (S 13 + 1), addE F (addE F L (evT 2 2 2 32768 8 0 (S 14))) (evT 2 5 5 32768 10 0 (S 14))) := by
  refine (hitS_dn 1 S h).trans ?_
  rw [← upd_putP _ 1 _ 8 _ (by decide), upd_get S 1 5 _ (by decide)]
  rfl
set_option maxHeartbeats 4000000 in
theorem ghit_1 (h : Stg w g gp base S F L) (hF : 0 ≤ F ∧ F ≤ 1073741824) (hx : F32 (S 14)) (h5 : 1 ≤ S 19 ∧ S 19 ≤ 3) (h9 : 0 ≤ S 13 ∧ S 13 ≤ 100) (hL : L.length < 63) (hc2 : cntE L 2 2 ≤ 15) (hc5 : cntE L 2 5 ≤ 15) :
    Calls Tryz.prog 66 #[.pointer (some ⟨g, 0, none⟩), .int .i64 1] w fun e w' => e = .returned (.tuple #[]) ∧ Stg w' g gp base (hitS 1 F (S, L)).1 F (hitS 1 F (S, L)).2 ∧ Below base w w' := by
  have H := Lib.hid h
  have HX := Lib.hid hx
  have hbg := h.bg
  have hlt := h.lt
  have a0 : w.cell? ⟨g, 14, none⟩ = some (.int .i32 (S 14)) := h.st.cell 14 (by decide)
  have a5 : w.cell? ⟨g, 19, none⟩ = some (.int .i64 (S 19)) := h.st.cell 19 (by decide)
  have a8 : w.cell? ⟨g, 22, none⟩ = some (.int .i64 (S 22)) := h.st.cell 22 (by decide)
  have a9 : w.cell? ⟨g, 13, none⟩ = some (.int .i64 (S 13)) := h.st.cell 13 (by decide)
  have z5 := h.st.frozen 19
  obtain ⟨h5a, h5b⟩ := h5
  obtain ⟨h9a, h9b⟩ := h9
  have H1 := Lib.hid (h.set 19 (by decide) (k := .i64) rfl (S 19 - 1))
  have HB1 := Lib.hid (bSetB7 (Below.refl base w) hbg 19 (.int .i64 (S 19 - 1)))
  have HOK2 := Lib.hid (evT_ok F 2 2 2 32768 8 0 (S 14) hF (by decide) (by decide) (by decide) (by decide) (by decide) (by decide) 0 (by decide))
  have HOK5 := Lib.hid (evT_ok F 2 5 5 32768 10 0 (S 14) hF (by decide) (by decide) (by decide) (by decide) (by decide) (by decide) 0 (by decide))
  have HC2 := Lib.hid hc2
  have HC5 := Lib.hid (show cntE (addE F L (evT 2 2 2 32768 8 0 (S 14))) 2 5 ≤ 15 by
    rw [cntE_add, if_neg (by simp [sameK, evT])]
    exact hc5)
  have hln := addE_length F L (evT 2 2 2 32768 8 0 (S 14))
  have HLN := Lib.hid hln
  obtain ⟨v, hv⟩ : ∃ v, S 19 - 1 = v := ⟨_, rfl⟩
  have hv0 : 0 ≤ v := by omega
  have hv3 : v ≤ 2 := by omega
  clear h hx hc2 hc5 hln
  by_cases hup : 0 < v
  · have HE := Lib.hid (hitS_1_up (F := F) (L := L) S (by rw [hv]; exact hup))
    rw [hv] at H1 HB1 HE
    have HV := Lib.hid hv
    have hsub : IntKind.i64.wrap (S 19 - 1) = S 19 - 1 := by simp only [IntKind.wrap_i64]; omega
    rw [hv] at hsub
    clear hv hsub
    go_enter Tryz.func66, Tryz.ntmps66
    go_wp2_with fail
    rw [HV.out]
    refine (gtell_any 2 2 2 32768 8 0 (S 14) H1.out HX.out HOK2.out (by omega) HC2.out).mono ?_
    rintro e w2 ⟨rfl, h2, k2⟩
    have b5 : w2.cell? ⟨g, 19, none⟩ = some (.int .i64 v) := h2.st.cell 19 (by decide)
    have hl2 := h2.lt
    have H2 := Lib.hid h2
    have HB2 := Lib.hid (HB1.out.trans k2)
    clear h2 k2
    go_wp2
    refine bodyPost_ret (results_none rfl _ _ _) rfl ⟨rfl, ?_, HB2.out⟩
    rw [HE.out]
    exact H2.out
  · have HE := Lib.hid (hitS_1_dn (F := F) (L := L) S (by rw [hv]; exact hup))
    rw [hv] at H1 HB1 HE
    have HV := Lib.hid hv
    clear hv
    have hle : v ≤ 0 := by omega
    clear hup
    go_enter Tryz.func66, Tryz.ntmps66
    go_wp2_with fail
    rw [HV.out]
    refine (gtell_any 2 2 2 32768 8 0 (S 14) H1.out HX.out HOK2.out (by omega) HC2.out).mono ?_
    rintro e w2 ⟨rfl, h2, k2⟩
    have b0 : w2.cell? ⟨g, 14, none⟩ = some (.int .i32 (S 14)) := h2.st.cell 14 (by decide)
    have b5 : w2.cell? ⟨g, 19, none⟩ = some (.int .i64 v) := h2.st.cell 19 (by decide)
    have b8 : w2.cell? ⟨g, 22, none⟩ = some (.int .i64 (S 22)) := h2.st.cell 22 (by decide)
    have b9 : w2.cell? ⟨g, 13, none⟩ = some (.int .i64 (S 13)) := h2.st.cell 13 (by decide)
    have y8 := h2.st.frozen 22
    have y9 := h2.st.frozen 13
    have hl2 := h2.lt
    have H3 := Lib.hid ((h2.set 22 (by decide) (k := .i64) rfl 30).set 13 (by decide) (k := .i64) rfl (S 13 + 1)).drew
    have HB3 := Lib.hid (bSetB7 (bSetB7 (HB1.out.trans k2) hbg 22 (.int .i64 30)) hbg 13 (.int .i64 (S 13 + 1))).drew
    clear h2 k2
    go_wp2
    go_big_region
    obtain ⟨w3, hw3⟩ : ∃ w3, ((w2.setCell ⟨g, 22, none⟩ (.int .i64 30)).setCell ⟨g, 13, none⟩ (.int .i64 (S 13 + 1))).drew = w3 := ⟨_, rfl⟩
    rw [hw3] at H3 HB3 ⊢
    clear hw3
    have d0 : w3.cell? ⟨g, 14, none⟩ = some (.int .i32 (S 14)) := H3.out.st.cell 14 (by decide)
    have hl3 := H3.out.lt
    go_wp2_with fail
    refine (gtell_any 2 5 5 32768 10 0 (S 14) H3.out HX.out HOK5.out (by rw [HLN.out]; omega) HC5.out).mono ?_
    rintro e w4 ⟨rfl, h4, k4⟩
    have H4 := Lib.hid h4
    have HB4 := Lib.hid (HB3.out.trans k4)
    clear h4 k4
    go_wp2
    go_end0
    rw [HE.out]
    exact ⟨rfl, H4.out, HB4.out⟩

end
end Go.Proofs.YtnaclkaapicelaaGreat

namespace Go.Proofs.YtnaclkaapicelaaGreat
open Go.RowKit

/-- A player in the midst of a step: its score may be three, if the other one is down. -/
structure PlM (p : Nat → Int) : Prop where
  ax : -3932160 ≤ p 0 ∧ p 0 ≤ 3932160
  ay : -3932160 ≤ p 1 ∧ p 1 ≤ 3932160
  wx : F32 (p 2)
  wy : F32 (p 3)
  fc : 0 ≤ p 4 ∧ p 4 ≤ 65535
  hp : 0 ≤ p 5 ∧ p 5 ≤ 3
  cl : 0 ≤ p 6 ∧ p 6 ≤ 8
  wd : 0 ≤ p 7 ∧ p 7 ≤ 20
  dn : 0 ≤ p 8 ∧ p 8 ≤ 30
  sc : 0 ≤ p 9 ∧ p 9 ≤ 3
  up : 0 < p 5 ↔ p 8 = 0
structure ShM (x : Nat → Int) : Prop where
  ax : -4194304 ≤ x 0 ∧ x 0 ≤ 4194304
  ay : -4194304 ≤ x 1 ∧ x 1 ≤ 4194304
  wx : F32 (x 2)
  wy : F32 (x 3)
  ow : 0 ≤ x 4 ∧ x 4 ≤ 2
  lf : 0 ≤ x 5 ∧ x 5 ≤ 40
  no : x 4 = 0 → shotZ x = true
  on : x 4 ≠ 0 → 1 ≤ x 5
/-- A state in the midst of a step. -/
structure StM (S : Nat → Int) : Prop where
  pl : ∀ i, i < 2 → PlM (getP S i)
  sc : ∀ i, i < 2 → S (4 + i * 10 + 9) ≤ 2 ∨ 0 < S (4 + (1 - i) * 10 + 8)
  sh : ∀ k, k < 6 → ShM (getS S k)
  dc : U32 (S 1)
  fr : 0 ≤ S 0 ∧ S 0 ≤ 1073741824
  rd : 0 ≤ S 2 ∧ S 2 ≤ 1073741824
  lf : 1 ≤ S 3 ∧ S 3 ≤ 600
theorem PlM.b {p : Nat → Int} (h : PlM p) (hs : p 9 ≤ 2) : PlB p :=
  ⟨⟨by have := h.ax; omega, by have := h.ax; omega⟩, ⟨by have := h.ay; omega, by have := h.ay; omega⟩, h.wx, h.wy, h.fc, h.hp, h.cl, h.wd, h.dn, ⟨h.sc.1, hs⟩⟩
theorem inB_iff (n lo hi : Int) : inB n lo hi = true ↔ lo ≤ n ∧ n ≤ hi := by unfold inB; simp
theorem playerB_iff (p : Nat → Int) : playerB p = true ↔ (0 ≤ p 4 ∧ p 4 ≤ 65535) ∧ (0 ≤ p 5 ∧ p 5 ≤ 3) ∧ (0 ≤ p 6 ∧ p 6 ≤ 8) ∧ (0 ≤ p 7 ∧ p 7 ≤ 20) ∧ (0 ≤ p 8 ∧ p 8 ≤ 30) ∧ (0 ≤ p 9 ∧ p 9 ≤ 2) ∧
    (-3932160 ≤ p 0 ∧ p 0 ≤ 3932160 ∧ -3932160 ≤ p 1 ∧ p 1 ≤ 3932160) ∧ (0 < p 5 ↔ p 8 = 0) := by
  have e : (decide (0 < p 5) = (p 8 == 0)) ↔ (0 < p 5 ↔ p 8 = 0) := by rw [Bool.eq_iff_iff]; simp
  unfold playerB insideB
  simp only [Bool.and_eq_true, inB_iff, decide_eq_true_eq, beq_iff_eq, e]
theorem PlM.right {p : Nat → Int} (h : PlM p) (hs : p 9 ≤ 2) : playerB p = true :=
  (playerB_iff p).2 ⟨h.fc, h.hp, h.cl, h.wd, h.dn, ⟨h.sc.1, hs⟩, ⟨h.ax.1, h.ax.2, h.ay.1, h.ay.2⟩, h.up⟩
theorem ShM.right {x : Nat → Int} (h : ShM x) : shotB x = true := by
  unfold shotB arenaB insideB
  simp only [Bool.or_eq_true, Bool.and_eq_true, inB_iff, decide_eq_true_eq]
  by_cases h4 : x 4 = 0
  · exact .inl (h.no h4)
  · have := h.ow
    have := h.on h4
    exact .inr ⟨by omega, ⟨this, h.lf.2⟩, h.ax.1, h.ax.2, h.ay.1, h.ay.2⟩
theorem rightS_iff (S : Nat → Int) : rightS S = true ↔ (∀ k, k < 6 → shotB (getS S k) = true) ∧ playerB (getP S 0) = true ∧ playerB (getP S 1) = true ∧ (0 ≤ S 0 ∧ S 0 ≤ 1073741824) ∧ (0 ≤ S 2 ∧ S 2 ≤ 1073741824) ∧ (1 ≤ S 3 ∧ S 3 ≤ 600) := by
  unfold rightS rightT
  simp only [Bool.and_eq_true, List.all_eq_true, List.mem_range, inB_iff]
/-- A state that may be. -/
structure StOk (S : Nat → Int) : Prop where
  m : StM S
  two : ∀ i, i < 2 → S (4 + i * 10 + 9) ≤ 2
theorem two_cases {q : Nat → Prop} (h0 : q 0) (h1 : q 1) : ∀ i, i < 2 → q i := fun i hi => by
  have : i = 0 ∨ i = 1 := by omega
  rcases this with rfl | rfl
  · exact h0
  · exact h1
theorem StOk.right {S : Nat → Int} (h : StOk S) : rightS S = true :=
  (rightS_iff S).2 ⟨fun k hk => (h.m.sh k hk).right, (h.m.pl 0 (by decide)).right (h.two 0 (by decide)), (h.m.pl 1 (by decide)).right (h.two 1 (by decide)), h.m.fr, h.m.rd, h.m.lf⟩
theorem PlM.congr {p q : Nat → Int} (h : PlM p) (e : ∀ j, j < 10 → q j = p j) : PlM q := by
  obtain ⟨a, b, c, d, f, g, i, j, k, l, m⟩ := h
  refine ⟨?_, ?_, ?_, ?_, ?_, ?_, ?_, ?_, ?_, ?_, ?_⟩ <;> simp only [e _ (by decide : 0 < 10), e _ (by decide : 1 < 10), e _ (by decide : 2 < 10), e _ (by decide : 3 < 10), e _ (by decide : 4 < 10), e _ (by decide : 5 < 10), e _ (by decide : 6 < 10), e _ (by decide : 7 < 10), e _ (by decide : 8 < 10), e _ (by decide : 9 < 10)] <;> assumption
theorem ShM.congr {p q : Nat → Int} (h : ShM p) (e : ∀ j, j < 6 → q j = p j) : ShM q := by
  obtain ⟨a, b, c, d, f, g, i, j⟩ := h
  have hz : shotZ q = shotZ p := by unfold shotZ; rw [e 0 (by decide), e 1 (by decide), e 2 (by decide), e 3 (by decide), e 4 (by decide), e 5 (by decide)]
  refine ⟨?_, ?_, ?_, ?_, ?_, ?_, ?_, ?_⟩ <;> simp only [hz, e _ (by decide : 0 < 6), e _ (by decide : 1 < 6), e _ (by decide : 2 < 6), e _ (by decide : 3 < 6), e _ (by decide : 4 < 6), e _ (by decide : 5 < 6)] <;> assumption
theorem StM.sput {S x : Nat → Int} (h : StM S) {k : Nat} (hk : k < 6) (hx : ShM x) : StM (putS S k x) := by
  have hlow : ∀ j, j < 24 → putS S k x j = S j := fun j hj => putS_other S k x j (.inl (by omega))
  refine ⟨fun i hi => (h.pl i hi).congr fun j hj => getP_putS S i k hi x j hj, fun i hi => ?_, fun m hm => ?_, ?_, ?_, ?_, ?_⟩
  · rw [hlow _ (by omega), hlow _ (by omega)]; exact h.sc i hi
  · by_cases e : k = m
    · subst e; exact hx.congr fun j hj => getS_putS S k x j hj
    · exact (h.sh m hm).congr fun j hj => getS_putS_ne S k m e x j hj
  · rw [hlow 1 (by decide)]; exact h.dc
  · rw [hlow 0 (by decide)]; exact h.fr
  · rw [hlow 2 (by decide)]; exact h.rd
  · rw [hlow 3 (by decide)]; exact h.lf
theorem StOk.sput {S x : Nat → Int} (h : StOk S) {k : Nat} (hk : k < 6) (hx : ShM x) : StOk (putS S k x) :=
  ⟨h.m.sput hk hx, fun i hi => by rw [putS_other S k x _ (.inl (by omega))]; exact h.two i hi⟩
theorem StM.pput {S p : Nat → Int} (h : StM S) {i : Nat} (hi : i < 2) (hp : PlM p) (h9 : p 9 ≤ 2 ∨ 0 < S (4 + (1 - i) * 10 + 8)) (h8 : S (4 + (1 - i) * 10 + 9) ≤ 2 ∨ 0 < p 8) : StM (putP S i p) := by
  have hother : ∀ m j, m < 2 → m ≠ i → j < 10 → putP S i p (4 + m * 10 + j) = S (4 + m * 10 + j) := fun m j hm hne hj => putP_other S i p _ (by omega)
  refine ⟨fun m hm => ?_, fun m hm => ?_, fun m hm => ?_, ?_, ?_, ?_, ?_⟩
  · by_cases e : i = m
    · subst e; exact hp.congr fun j hj => getP_putP S i p j hj
    · exact (h.pl m hm).congr fun j hj => getP_putP_ne S i m e p j hj
  · by_cases e : m = i
    · subst e
      rw [putP_at S m p 9 (by decide), hother (1 - m) 8 (by omega) (by omega) (by decide)]
      exact h9
    · have e1 : 1 - m = i := by omega
      have e2 : m = 1 - i := by omega
      rw [e1, putP_at S i p 8 (by decide), hother m 9 hm e (by decide), e2]
      exact h8
  · rw [getS_putP S i m hi]; exact h.sh m hm
  · rw [putP_other S i p 1 (by omega)]; exact h.dc
  · rw [putP_other S i p 0 (by omega)]; exact h.fr
  · rw [putP_other S i p 2 (by omega)]; exact h.rd
  · rw [putP_other S i p 3 (by omega)]; exact h.lf
theorem StOk.pput {S p : Nat → Int} (h : StOk S) {i : Nat} (hi : i < 2) (hp : PlM p) (h9 : p 9 ≤ 2) : StOk (putP S i p) := by
  refine ⟨h.m.pput hi hp (.inl h9) (.inl (h.two _ (by omega))), fun m hm => ?_⟩
  by_cases e : m = i
  · subst e; rw [putP_at S m p 9 (by decide)]; exact h9
  · rw [putP_other S i p _ (by omega)]; exact h.two m hm
/-- A number that is none of a player's or a shot's. -/
theorem StM.head {S : Nat → Int} (h : StM S) {j : Nat} {v : Int} (hj : j < 4) (hd : j = 1 → U32 v) (h0 : j = 0 → 0 ≤ v ∧ v ≤ 1073741824) (h2 : j = 2 → 0 ≤ v ∧ v ≤ 1073741824) (h3 : j = 3 → 1 ≤ v ∧ v ≤ 600) : StM (upd S j v) := by
  have ho : ∀ m, 4 ≤ m → upd S j v m = S m := fun m hm => upd_other _ _ _ _ (by omega)
  refine ⟨fun i hi => (h.pl i hi).congr fun m hm => ho _ (by omega), fun i hi => by rw [ho _ (by omega), ho _ (by omega)]; exact h.sc i hi, fun k hk => (h.sh k hk).congr fun m hm => ho _ (by omega), ?_, ?_, ?_, ?_⟩
  · by_cases e : j = 1
    · subst e; rw [upd_same]; exact hd rfl
    · rw [upd_other _ _ _ _ (fun x => e x.symm)]; exact h.dc
  · by_cases e : j = 0
    · subst e; rw [upd_same]; exact h0 rfl
    · rw [upd_other _ _ _ _ (fun x => e x.symm)]; exact h.fr
  · by_cases e : j = 2
    · subst e; rw [upd_same]; exact h2 rfl
    · rw [upd_other _ _ _ _ (fun x => e x.symm)]; exact h.rd
  · by_cases e : j = 3
    · subst e; rw [upd_same]; exact h3 rfl
    · rw [upd_other _ _ _ _ (fun x => e x.symm)]; exact h.lf
theorem StOk.head {S : Nat → Int} (h : StOk S) {j : Nat} {v : Int} (hj : j < 4) (hd : j = 1 → U32 v) (h0 : j = 0 → 0 ≤ v ∧ v ≤ 1073741824) (h2 : j = 2 → 0 ≤ v ∧ v ≤ 1073741824) (h3 : j = 3 → 1 ≤ v ∧ v ≤ 600) : StOk (upd S j v) :=
  ⟨h.m.head hj hd h0 h2 h3, fun i hi => by rw [upd_other _ _ _ _ (by omega)]; exact h.two i hi⟩

/-! ### events, counted -/
structure EvN (L : List Ev) (a b : Nat) : Prop where
  len : L.length ≤ a
  cnt : ∀ em kd, kd = 2 ∨ kd = 5 → cntE L em kd ≤ b
theorem EvN.nil : EvN [] 0 0 := ⟨by simp, fun _ _ _ => by simp [cntE]⟩
theorem EvN.more {L : List Ev} {a b a' b' : Nat} (h : EvN L a b) (ha : a ≤ a') (hb : b ≤ b') : EvN L a' b' := ⟨Nat.le_trans h.len ha, fun em kd hk => Nat.le_trans (h.cnt em kd hk) hb⟩
theorem cntE_addE (F : Int) (L : List Ev) (x : Ev) (em kd : Int) : cntE (addE F L x) em kd = cntE L em kd + if sameK em kd x then 1 else 0 := cntE_ins L _ _ em kd
theorem EvN.add {L : List Ev} {a b : Nat} (h : EvN L a b) (F : Int) (x : Ev) (h2 : x.kind ≠ 2) (h5 : x.kind ≠ 5) : EvN (addE F L x) (a + 1) b :=
  ⟨by rw [addE_length]; have := h.len; omega, fun em kd hk => by
    rw [cntE_addE, if_neg]
    · exact h.cnt em kd hk
    · unfold sameK
      rw [decide_eq_false (show ¬ x.kind = kd by rintro rfl; rcases hk with e | e <;> contradiction)]
      simp⟩
theorem EvN.hit {L : List Ev} {a b : Nat} (h : EvN L a b) (F : Int) (x : Ev) : EvN (addE F L x) (a + 1) (b + 1) :=
  ⟨by rw [addE_length]; have := h.len; omega, fun em kd hk => by
    rw [cntE_addE]
    have := h.cnt em kd hk
    split <;> omega⟩
/-- Both events of one that is hit: of two kinds. -/
theorem EvN.hits {L : List Ev} {a b : Nat} (h : EvN L a b) (F : Int) (x y : Ev) (hx : x.kind = 2) (hy : y.kind = 5) : EvN (addE F (addE F L x) y) (a + 2) (b + 1) :=
  ⟨by rw [addE_length, addE_length]; have := h.len; omega, fun em kd hk => by
    rw [cntE_addE, cntE_addE]
    have := h.cnt em kd hk
    unfold sameK
    rw [hx, hy]
    rcases hk with rfl | rfl
    · rw [decide_eq_false (show ¬ (5 : Int) = 2 by decide)]
      simp
      split <;> omega
    · rw [decide_eq_false (show ¬ (2 : Int) = 5 by decide)]
      simp
      split <;> omega⟩
end Go.Proofs.YtnaclkaapicelaaGreat

namespace Go.Proofs.YtnaclkaapicelaaGreat
open Go.RowKit
set_option maxRecDepth 100000
def freshBoth : List Value := [.int .i32 (-2097152), .int .i32 0, .int .i32 0, .int .i32 0, .int .i64 0, .int .i64 3, .int .i64 0, .int .i64 0, .int .i64 0, .int .i64 0, .int .i32 2097152, .int .i32 0, .int .i32 0, .int .i32 0, .int .i64 32768, .int .i64 3, .int .i64 0, .int .i64 0, .int .i64 0, .int .i64 0]
theorem int_one (S : Nat → Int) : ∀ v ∈ stCells S, v.oneCell' = true := fun v hv => by
  unfold stCells rowOf at hv
  obtain ⟨j, -, rfl⟩ := List.mem_map.1 hv
  rfl
def beginS (seed : Int) : Nat → Int := upd (putP (putP (upd (fun _ => 0) 3 600) 0 (freshP 0)) 1 (freshP 1)) 1 seed
theorem built_both : Tryz.prog.built 28 [(0, .agg #[.int .i32 (-2097152), .int .i32 0, .int .i32 0, .int .i32 0, .int .i64 0, .int .i64 3, .int .i64 0, .int .i64 0, .int .i64 0, .int .i64 0]), (1, .agg #[.int .i32 2097152, .int .i32 0, .int .i32 0, .int .i32 0, .int .i64 32768, .int .i64 3, .int .i64 0, .int .i64 0, .int .i64 0, .int .i64 0])] = some freshBoth.toArray := by kernel_rfl
theorem built_begin (seed : Int) : Tryz.prog.built 33 [(1, .int .u32 seed), (3, .int .i64 600), (4, .agg freshBoth.toArray)] = some (stCells (beginS seed)).toArray := by kernel_rfl
end Go.Proofs.YtnaclkaapicelaaGreat

namespace Go.Proofs.YtnaclkaapicelaaGreat
open Go.RowKit
set_option maxRecDepth 100000
theorem steerP_b {p : Nat → Int} (h : PlB p) (n : Nat) : PlB (steerP p n) := ((((h.cool.face n).brake n).thrust n).dash n).slow
theorem steerL_len (i : Nat) (p : Nat → Int) (n : Nat) (F : Int) (L : List Ev) : (steerL i p n F L).length ≤ L.length + 2 := by
  unfold steerL lDash lThrust
  split <;> split <;> (try simp only [addE_length]) <;> omega
theorem lMove_len (i : Nat) (p : Nat → Int) (F : Int) (L : List Ev) : (lMove i p F L).length ≤ L.length + 1 := by
  unfold lMove
  split
  · omega
  · rw [addE_length]; exact Nat.le_refl _
section
variable {g gp base : Nat} {S : Nat → Int} {F : Int} {L : List Ev} {w : World} {i n : Nat}
set_option maxHeartbeats 4000000 in
theorem gplay_any (h : Stg w g gp base S F L) (hi : i < 2) (hok : StOk S) (hn : n < 64) (hF : 0 ≤ F ∧ F ≤ 1073741824) (hS : S 0 = F) (hL : L.length ≤ 10) :
    Calls Tryz.prog 25 #[.pointer (some ⟨g, 0, none⟩), .int .i64 i, .int .u8 n] w fun e w' => e = .returned (.tuple #[]) ∧ Stg w' g gp base (playS i n F (S, L)).1 F (playS i n F (S, L)).2 ∧ Below base w w' := by
  have hpb := (hok.m.pl i hi).b (hok.two i hi)
  have h1 := h.as (putP_get S i).symm
  have c8 := h1.cellP hi 8 (by decide) (k := .i64) rfl
  have hlt := h.lt
  have hi2 : (i : Int) < 2 := by omega
  have hdc := hok.m.dc
  obtain ⟨p, hp⟩ : ∃ p, getP S i = p := ⟨_, rfl⟩
  have HE : Hid (playS i n F (S, L) = if 1 < p 8 then (putP S i (upd p 8 (p 8 - 1)), L) else if p 8 = 1 then (putP (upd S 1 (nextZ (S 1))) i (pBack p (throwZ (S 1) 4)), addE F L (evT ((i : Int) + 1) 6 6 16384 9 0 (cornX (throwZ (S 1) 4)))) else if bit n 16 then fireS i F (putP S i (pMove (steerP p n)), lMove i (steerP p n) F (steerL i p n F L)) else (putP S i (pMove (steerP p n)), lMove i (steerP p n) F (steerL i p n F L))) := by
    subst hp; exact Lib.hid rfl
  rw [hp] at hpb h1 c8
  obtain ⟨d0, d1⟩ := hpb.dn
  have H := Lib.hid h1
  have HP := Lib.hid hpb
  have HS := Lib.hid hS
  have HU := Lib.hid hdc
  clear h h1 hpb hp hS hok hdc
  by_cases h8 : 1 < p 8
  · have HR := Lib.hid (HE.out.trans (if_pos h8))
    clear HE
    go_enter Tryz.func25, Tryz.ntmps25
    go_wp2_with fail
    refine (gback_more H.out hi h8 d1).mono ?_
    rintro e w1 ⟨rfl, k1, k2⟩
    have H1 := Lib.hid k1
    have H2 := Lib.hid k2
    clear k1 k2
    go_wp2
    refine bodyPost_ret (results_none rfl _ _ _) rfl ⟨rfl, ?_, H2.out⟩
    rw [HR.out]
    exact H1.out
  · by_cases h1 : p 8 = 1
    · have HR := Lib.hid (HE.out.trans ((if_neg h8).trans (if_pos h1)))
      have H8 := Lib.hid h1
      have hpos : 0 < p 8 := by omega
      clear HE h1
      go_enter Tryz.func25, Tryz.ntmps25
      go_wp2_with fail
      refine (gback_one H.out hi H8.out HU.out hF (by omega)).mono ?_
      rintro e w1 ⟨rfl, k1, k2⟩
      have H1 := Lib.hid k1
      have H2 := Lib.hid k2
      clear k1 k2
      go_wp2
      refine bodyPost_ret (results_none rfl _ _ _) rfl ⟨rfl, ?_, H2.out⟩
      rw [HR.out]
      exact H1.out
    · have HR := Lib.hid (HE.out.trans ((if_neg h8).trans (if_neg h1)))
      have hz : p 8 ≤ 0 := by omega
      have hl1 := steerL_len i p n F L
      have hl2 := lMove_len i (steerP p n) F (steerL i p n F L)
      clear HE h1 h8 d0 d1
      go_enter Tryz.func25, Tryz.ntmps25
      go_wp2_with fail
      refine (gsteer_any H.out hi hn HP.out hF HS.out (by omega)).mono ?_
      rintro e w1 ⟨rfl, k1, k2⟩
      have HP1 := Lib.hid (steerP_b HP.out n)
      have H1 : Hid (Stg w1 g gp base (putP S i (steerP p n)) F (steerL i p n F L)) := k1
      have HB1 := Lib.hid k2
      clear k1 k2
      go_wp2_with fail
      refine (gmove_any H1.out hi HP1.out hF (by omega)).mono ?_
      rintro e w2 ⟨rfl, k1, k2⟩
      have H2 := Lib.hid k1
      have HB2 := Lib.hid (HB1.out.trans k2)
      have HP2 := Lib.hid HP1.out.move
      clear k1 k2
      go_wp2_with fail
      refine (pr_any n 16 _ rfl hn (by decide) _).mono ?_
      rintro e w3 ⟨rfl, rfl⟩
      cases hbit : bit n 16
      · have HF2 := Lib.hid (HR.out.trans (if_neg (by rw [hbit]; decide)))
        go_wp2
        go_end0
        rw [HF2.out]
        exact ⟨rfl, H2.out, HB2.out⟩
      · have HF2 := Lib.hid (HR.out.trans (if_pos hbit))
        go_wp2_with fail
        refine (gfire_any H2.out hi HP2.out hF (by omega)).mono ?_
        rintro e w4 ⟨rfl, k1, k2⟩
        have H4 := Lib.hid k1
        have HB4 := Lib.hid (HB2.out.trans k2)
        clear k1 k2
        go_wp2
        go_end0
        rw [HF2.out]
        exact ⟨rfl, H4.out, HB4.out⟩
end
end Go.Proofs.YtnaclkaapicelaaGreat

namespace Go.Proofs.YtnaclkaapicelaaGreat
open Go.RowKit
set_option maxRecDepth 100000
theorem bSetB9 {base : Nat} {w w' : World} {g : Nat} (h : Below base w w') (hg : base ≤ g) (o : Nat) (u : Value) : Below base w (w'.setCell ⟨g, o, none⟩ u) := h.setCell (p := ⟨g, o, none⟩) hg u
theorem Stg.mild {w w' : World} {g gp base : Nat} {S : Nat → Int} {F : Int} {L : List Ev} (h : Stg w g gp base S F L) (k : Below w.heap.size w w') : Stg w' g gp base S F L := h.on k
section
variable {g gp base : Nat} {S : Nat → Int} {F : Int} {L : List Ev} {w : World}
set_option maxHeartbeats 4000000 in
theorem gclash_any (h : Stg w g gp base S F L) (hF : 0 ≤ F ∧ F ≤ 1073741824) (h12 : 0 ≤ S 12) (h22 : 0 ≤ S 22) (f4 : F32 (S 4)) (f5 : F32 (S 5)) (f14 : F32 (S 14)) (f15 : F32 (S 15)) (hL : L.length ≤ 14) :
    Calls Tryz.prog 26 #[.pointer (some ⟨g, 0, none⟩)] w fun e w' => e = .returned (.tuple #[]) ∧ Stg w' g gp base (clashS F (S, L)).1 F (clashS F (S, L)).2 ∧ Below base w w' := by
  have H := Lib.hid h
  have hlt := h.lt
  have hbg := h.bg
  have HT := Lib.hid (fun W => sTouch_any f4 f5 (show F32 262144 by unfold F32; omega) f14 f15 (show F32 262144 by unfold F32; omega) W)
  clear h f4 f5 f14 f15
  by_cases d0 : 0 < S 12
  · have HE := Lib.hid (show clashS F (S, L) = (S, L) by unfold clashS clashB; rw [decide_eq_false (show ¬ S 12 = 0 by omega)]; rfl)
    go_enter Tryz.func26, Tryz.ntmps26
    go_wp2_with fail
    refine wp_region_mild (by kernel_rfl) (by kernel_rfl) ?_
    repeat (go_big_quiet_step ((fail)))
    refine wpQuiet_nil ?_
    intro w1 hw'
    obtain ⟨⟨wq, k1⟩, hw''⟩ := hw'
    subst hw''
    have h1 := H.out.mild k1
    have hb1 : Below base w w1 := k1.mono H.out.bw
    have c12 : w1.cell? ⟨g, 12, none⟩ = some (.int .i64 (S 12)) := h1.st.cell 12 (by decide)
    have c22 : w1.cell? ⟨g, 22, none⟩ = some (.int .i64 (S 22)) := h1.st.cell 22 (by decide)
    have c4 : w1.cell? ⟨g, 4, none⟩ = some (.int .i32 (S 4)) := h1.st.cell 4 (by decide)
    have c5 : w1.cell? ⟨g, 5, none⟩ = some (.int .i32 (S 5)) := h1.st.cell 5 (by decide)
    have c14 : w1.cell? ⟨g, 14, none⟩ = some (.int .i32 (S 14)) := h1.st.cell 14 (by decide)
    have c15 : w1.cell? ⟨g, 15, none⟩ = some (.int .i32 (S 15)) := h1.st.cell 15 (by decide)
    have hl1 := h1.lt
    have H1 := Lib.hid h1
    have HB1 := Lib.hid hb1
    clear h1 hb1 k1
    go_wp2_with fail
    refine wp_region_mild (by kernel_rfl) (by kernel_rfl) ?_
    repeat (go_big_quiet_step ((fail)))
    refine wpQuiet_nil ?_
    intro w2 hw'
    obtain ⟨⟨wq, k2⟩, hw''⟩ := hw'
    subst hw''
    go_wp2
    refine bodyPost_ret (results_none rfl _ _ _) rfl ⟨rfl, ?_, HB1.out.trans (k2.mono H1.out.bw)⟩
    rw [HE.out]
    exact H1.out.mild k2
  · by_cases d1 : 0 < S 22
    · have HE := Lib.hid (show clashS F (S, L) = (S, L) by unfold clashS clashB; rw [decide_eq_false (show ¬ S 22 = 0 by omega), Bool.false_and, Bool.and_false]; rfl)
      have d0' : decide (0 < S 12) = false := decide_eq_false d0
      clear d0
      go_enter Tryz.func26, Tryz.ntmps26
      go_wp2_with fail
      refine wp_region_mild (by kernel_rfl) (by kernel_rfl) ?_
      repeat (go_big_quiet_step ((fail)))
      refine wpQuiet_nil ?_
      intro w1 hw'
      obtain ⟨⟨wq, k1⟩, hw''⟩ := hw'
      subst hw''
      have h1 := H.out.mild k1
      have hb1 : Below base w w1 := k1.mono H.out.bw
      have c12 : w1.cell? ⟨g, 12, none⟩ = some (.int .i64 (S 12)) := h1.st.cell 12 (by decide)
      have c22 : w1.cell? ⟨g, 22, none⟩ = some (.int .i64 (S 22)) := h1.st.cell 22 (by decide)
      have c4 : w1.cell? ⟨g, 4, none⟩ = some (.int .i32 (S 4)) := h1.st.cell 4 (by decide)
      have c5 : w1.cell? ⟨g, 5, none⟩ = some (.int .i32 (S 5)) := h1.st.cell 5 (by decide)
      have c14 : w1.cell? ⟨g, 14, none⟩ = some (.int .i32 (S 14)) := h1.st.cell 14 (by decide)
      have c15 : w1.cell? ⟨g, 15, none⟩ = some (.int .i32 (S 15)) := h1.st.cell 15 (by decide)
      have hl1 := h1.lt
      have H1 := Lib.hid h1
      have HB1 := Lib.hid hb1
      clear h1 hb1 k1
      go_wp2_with fail
      refine wp_region_mild (by kernel_rfl) (by kernel_rfl) ?_
      repeat (go_big_quiet_step ((fail)))
      refine wpQuiet_nil ?_
      intro w2 hw'
      obtain ⟨⟨wq, k2⟩, hw''⟩ := hw'
      subst hw''
      go_wp2
      refine bodyPost_ret (results_none rfl _ _ _) rfl ⟨rfl, ?_, HB1.out.trans (k2.mono H1.out.bw)⟩
      rw [HE.out]
      exact H1.out.mild k2
    · obtain ⟨b, hb⟩ : ∃ b, touchB (S 4) (S 5) 262144 (S 14) (S 15) 262144 = b := ⟨_, rfl⟩
      have HE := Lib.hid (show clashS F (S, L) = if b then (upd (upd (upd (upd S 6 (S 16)) 7 (S 17)) 16 (S 6)) 17 (S 7), addE F L (evT 0 4 4 16384 6 0 0)) else (S, L) by
        unfold clashS clashB
        simp only [hb, decide_eq_true (show S 12 = 0 by omega), decide_eq_true (show S 22 = 0 by omega), Bool.true_and])
      rw [hb] at HT
      have d0' : decide (0 < S 12) = false := decide_eq_false d0
      have d1' : decide (0 < S 22) = false := decide_eq_false d1
      clear hb d0 d1
      go_enter Tryz.func26, Tryz.ntmps26
      go_wp2_with fail
      refine wp_region_mild (by kernel_rfl) (by kernel_rfl) ?_
      repeat (go_big_quiet_step ((fail)))
      refine wpQuiet_nil ?_
      intro w1 hw'
      obtain ⟨⟨wq, k1⟩, hw''⟩ := hw'
      subst hw''
      have h1 := H.out.mild k1
      have hb1 : Below base w w1 := k1.mono H.out.bw
      have c12 : w1.cell? ⟨g, 12, none⟩ = some (.int .i64 (S 12)) := h1.st.cell 12 (by decide)
      have c22 : w1.cell? ⟨g, 22, none⟩ = some (.int .i64 (S 22)) := h1.st.cell 22 (by decide)
      have c4 : w1.cell? ⟨g, 4, none⟩ = some (.int .i32 (S 4)) := h1.st.cell 4 (by decide)
      have c5 : w1.cell? ⟨g, 5, none⟩ = some (.int .i32 (S 5)) := h1.st.cell 5 (by decide)
      have c14 : w1.cell? ⟨g, 14, none⟩ = some (.int .i32 (S 14)) := h1.st.cell 14 (by decide)
      have c15 : w1.cell? ⟨g, 15, none⟩ = some (.int .i32 (S 15)) := h1.st.cell 15 (by decide)
      have hl1 := h1.lt
      have H1 := Lib.hid h1
      have HB1 := Lib.hid hb1
      clear h1 hb1 k1
      go_wp2_with fail
      refine wp_region_mild (by kernel_rfl) (by kernel_rfl) ?_
      repeat (go_big_quiet_step ((go_at_call 61; exact mild_of (HT.out _))))
      refine wpQuiet_nil ?_
      intro w2 hw'
      obtain ⟨⟨wq, k2⟩, hw''⟩ := hw'
      subst hw''
      have h2 := H1.out.mild k2
      have hb2 : Below base w w2 := HB1.out.trans (k2.mono H1.out.bw)
      cases b
      · have HE2 := Lib.hid (HE.out.trans (if_neg (by decide)))
        go_wp2
        refine bodyPost_ret (results_none rfl _ _ _) rfl ⟨rfl, ?_, hb2⟩
        rw [HE2.out]
        exact h2
      · have HE2 := Lib.hid (HE.out.trans (if_pos rfl))
        have e6 : w2.cell? ⟨g, 6, none⟩ = some (.int .i32 (S 6)) := h2.st.cell 6 (by decide)
        have e7 : w2.cell? ⟨g, 7, none⟩ = some (.int .i32 (S 7)) := h2.st.cell 7 (by decide)
        have e16 : w2.cell? ⟨g, 16, none⟩ = some (.int .i32 (S 16)) := h2.st.cell 16 (by decide)
        have e17 : w2.cell? ⟨g, 17, none⟩ = some (.int .i32 (S 17)) := h2.st.cell 17 (by decide)
        have y6 := h2.st.frozen 6
        have y7 := h2.st.frozen 7
        have y16 := h2.st.frozen 16
        have y17 := h2.st.frozen 17
        have H3 := Lib.hid ((((h2.set 6 (by decide) (k := .i32) rfl (S 16)).set 7 (by decide) (k := .i32) rfl (S 17)).set 16 (by decide) (k := .i32) rfl (S 6)).set 17 (by decide) (k := .i32) rfl (S 7)).drew
        have HB3 := Lib.hid (bSetB9 (bSetB9 (bSetB9 (bSetB9 hb2 hbg 6 (.int .i32 (S 16))) hbg 7 (.int .i32 (S 17))) hbg 16 (.int .i32 (S 6))) hbg 17 (.int .i32 (S 7))).drew
        clear h2 hb2 c12 c22 c4 c5 c14 c15 k2
        go_wp2_with fail
        go_big_region
        all_goals
          obtain ⟨w3, hw3⟩ : ∃ w3, ((((w2.setCell ⟨g, 6, none⟩ (.int .i32 (S 16))).setCell ⟨g, 7, none⟩ (.int .i32 (S 17))).setCell ⟨g, 16, none⟩ (.int .i32 (S 6))).setCell ⟨g, 17, none⟩ (.int .i32 (S 7))).drew = w3 := ⟨_, rfl⟩
          rw [hw3] at H3 HB3 ⊢
          clear hw3
          have hl3 := H3.out.lt
          go_wp2_with fail
          refine (gtell_any 0 4 4 16384 6 0 0 H3.out (by unfold F32; omega) (evT_ok F _ _ _ _ _ _ _ hF (by decide) (by decide) (by decide) (by decide) (by decide) (by decide) 0 (by decide)) (by omega) (Nat.le_trans (cntE_le _ _ _) (by omega))).mono ?_
          rintro e w4 ⟨rfl, h4, k4⟩
          have H4 := Lib.hid h4
          have HB4 := Lib.hid (HB3.out.trans k4)
          clear h4 k4
          go_wp2
          go_end0
          rw [HE2.out]
          exact ⟨rfl, H4.out, HB4.out⟩
end
end Go.Proofs.YtnaclkaapicelaaGreat
