/-
  The walks beneath: GameE, Bot1, Bot2.
-/
import Derived.Deep.RegionHeld3
import Derived.Test.YtibeihcpehikoaaGreatMq34
import Derived.Test.YtibeihcpehikoaaGreatMq32
import Derived.Test.YtibeihcpehikoaaGreatMq24
namespace Go.Proofs.YtibeihcpehikoaaGreat
open Go.RowKit
set_option maxRecDepth 100000
theorem begin_ok {seed : Int} (h : U32 seed) : StOk (beginS seed) := by
  have hp0 : ∀ j, j < 10 → getP (beginS seed) 0 j = freshP 0 j := fun j hj => by
    unfold beginS getP
    rw [upd_other _ _ _ _ (by omega), putP_other _ _ _ _ (by omega)]
    exact putP_at _ 0 _ j hj
  have hp1 : ∀ j, j < 10 → getP (beginS seed) 1 j = freshP 1 j := fun j hj => by
    unfold beginS getP
    rw [upd_other _ _ _ _ (by omega)]
    exact putP_at _ 1 _ j hj
  have s0 : beginS seed 13 = 0 := hp0 9 (by decide)
  have s1 : beginS seed 23 = 0 := hp1 9 (by decide)
  refine ⟨⟨two_cases ((fresh_m 0).congr hp0) ((fresh_m 1).congr hp1), two_cases (.inl ?_) (.inl ?_), fun k hk => zero_m.congr fun j hj => ?_, ?_, ?_, ?_, ?_⟩, two_cases ?_ ?_⟩
  · show beginS seed 13 ≤ 2; rw [s0]; decide
  · show beginS seed 23 ≤ 2; rw [s1]; decide
  · unfold getS beginS
    rw [upd_other _ _ _ _ (by omega), putP_other _ _ _ _ (by omega), putP_other _ _ _ _ (by omega), upd_other _ _ _ _ (by omega)]; rfl
  · exact h
  · exact ⟨Int.le_refl _, by show (0 : Int) ≤ _; decide⟩
  · exact ⟨Int.le_refl _, by show (0 : Int) ≤ _; decide⟩
  · show 1 ≤ (600 : Int) ∧ (600 : Int) ≤ 600; decide
  · show beginS seed 13 ≤ 2; rw [s0]; decide
  · show beginS seed 23 ≤ 2; rw [s1]; decide
set_option maxHeartbeats 1000000 in
theorem gBegin_any (seed : Int) (w : World) : Calls Tryz.prog 53 #[.int .u32 seed] w fun e w' => e = .returned (.agg (stCells (beginS seed)).toArray) ∧ Below w.heap.size w w' := by
  obtain ⟨CZ, hcz⟩ : ∃ CZ : Array Value, (stCells (beginS seed)).toArray = CZ := ⟨_, rfl⟩
  have hbz := built_begin seed
  rw [hcz] at hbz ⊢
  obtain ⟨CB, hcb⟩ : ∃ CB : Array Value, freshBoth.toArray = CB := ⟨_, rfl⟩
  have hbb := built_both
  rw [hcb] at hbz hbb
  have HBZ := Lib.hid hbz
  have HBB := Lib.hid hbb
  have hsz : CZ.size = 60 := by rw [← hcz, List.size_toArray, stCells_length]
  have H1C : Hid (CZ.all (·.oneCell') = true) := Lib.hid (by rw [← hcz]; exact all_oneCell_toArray (int_one _))
  have HSZ : Hid ((Tryz.prog.info? 41).map (·.size) = some CZ.size) := Lib.hid (by rw [hsz]; kernel_rfl)
  have hcl : CZ.toList.length = 60 := by rw [← hsz]; simp
  have HSI := Lib.hid hsz
  have HCL := Lib.hid hcl
  clear hbz hbb hcz hcb hsz hcl
  go_enter Tryz.func53, Tryz.ntmps53
  go_upto_region 1 with fail
  refine named1 (F := fun W => Code.wp _ _ _ _ W) ?_
  intro w1 k0 hb1 hz1
  have hl1 := k0.lt
  have HK0 := Lib.hid k0
  have HB1 := Lib.hid hb1
  clear k0 hb1 hz1
  go_wp2_with fail
  refine (gfresh_0 _).mono ?_
  rintro e w2 ⟨rfl, k2⟩
  have HB2 := Lib.hid (bTrans HB1.out k2)
  have HK2 := Lib.hid (HK0.out.on k2)
  clear k2
  go_wp2_with fail
  refine (gfresh_1 _).mono ?_
  rintro e w3 ⟨rfl, k3⟩
  have HB3 := Lib.hid (bTrans HB2.out k3)
  have hk3 := HK2.out.on k3
  have HTH : Hid (w3.there w.heap.size 0 CZ.size) := Lib.hid (by rw [HSI.out]; exact Blk.there hk3 (by decide))
  have hrg := World.rangeAt_setCells_same w3 w.heap.size 0 CZ.toList (by rw [HCL.out, ← HSI.out]; exact HTH.out)
  have HRES := Lib.hid (run_loadVar_mid (P := Tryz.prog) _ _ _ 41 CZ.toList _ hrg Tryz.underlying41 rfl (by rw [HCL.out]; kernel_rfl))
  have HBW := Lib.hid (bSetCells HB3.out (Nat.le_refl _) 0 CZ.toList)
  obtain ⟨wz, hwz⟩ : ∃ wz, w3.setCells w.heap.size 0 CZ.toList = wz := ⟨_, rfl⟩
  rw [hwz] at HRES HBW
  have HWZ := Lib.hid hwz
  clear k3 hk3 hrg hwz
  go_wp2_with (first
    | (refine wpList_built rfl 36 [(0, .tmp 4), (1, .tmp 5)] rfl CB _ rfl HBB.out ?_)
    | (refine wpList_built rfl 41 [(1, .tmp 3), (3, .const (.int .i64 600)), (4, .tmp 6)] rfl CZ _ rfl HBZ.out ?_)
    | (refine wpList_store_mid rfl 41 (.tmp 2) (.tmp 7) rfl w.heap.size 0 CZ rfl rfl HTH.out HSZ.out H1C.out ?_; rw [HWZ.out]))
  have hres := HRES.out
  refine bodyPost_ret (results_c0 (a := 2) (t := 41) rfl rfl hres) rfl ⟨rfl, HBW.out⟩
theorem aw_len : (stepS 4 4 (beginS 7)).2.length = 2 := by decide +kernel
theorem aw_kind : ((stepS 4 4 (beginS 7)).2.map Ev.kind).head? = some 8 := by decide +kernel
theorem aw_st : (stepS 4 4 (beginS 7)).1 0 = 1 ∧ -2097152 < (stepS 4 4 (beginS 7)).1 4 ∧ (stepS 4 4 (beginS 7)).1 14 < 2097152 := by decide +kernel
end Go.Proofs.YtibeihcpehikoaaGreat

namespace Go.Proofs.YtibeihcpehikoaaGreat
open Go.RowKit
set_option maxRecDepth 100000
def dxZ (S : Nat → Int) (i : Nat) : Int := psub (S (4 + (1 - i) * 10)) (S (4 + i * 10))
def dyZ (S : Nat → Int) (i : Nat) : Int := psub (S (4 + (1 - i) * 10 + 1)) (S (4 + i * 10 + 1))
def faceZ (S : Nat → Int) (i : Nat) : Int := S (4 + i * 10 + 4)
def dotZ (S : Nat → Int) (i : Nat) : Int := padd (fmul (sinZ (faceZ S i + 16384)) (dxZ S i)) (fmul (sinZ (faceZ S i)) (dyZ S i))
def crossZ (S : Nat → Int) (i : Nat) : Int := psub (fmul (sinZ (faceZ S i + 16384)) (dyZ S i)) (fmul (sinZ (faceZ S i)) (dxZ S i))
theorem st_at {w : World} {g : Nat} {S : Nat → Int} (h : Blk w g 41 (stCells S).toArray) : w.cell? ⟨g, 4, none⟩ = some (.int .i32 (S 4)) ∧ w.cell? ⟨g, 5, none⟩ = some (.int .i32 (S 5)) ∧ w.cell? ⟨g, 14, none⟩ = some (.int .i32 (S 14)) ∧ w.cell? ⟨g, 15, none⟩ = some (.int .i32 (S 15)) ∧ w.cell? ⟨g, 8, none⟩ = some (.int .i64 (S 8)) ∧ w.cell? ⟨g, 18, none⟩ = some (.int .i64 (S 18)) :=
  ⟨st_cell h 4 (by decide), st_cell h 5 (by decide), st_cell h 14 (by decide), st_cell h 15 (by decide), st_cell h 8 (by decide), st_cell h 18 (by decide)⟩
end Go.Proofs.YtibeihcpehikoaaGreat

namespace Go.Proofs.YtibeihcpehikoaaGreat
open Go.RowKit
set_option maxRecDepth 100000
def vwCells (S : Nat → Int) (i : Nat) (d c : Int) : List Value := stCells S ++ (plCells (getP S i) ++ [.int .i64 i, .int .i32 d, .int .i32 c])
section
variable {w w' : World} {g : Nat} {S : Nat → Int} {i : Nat} {d c : Int}
end
def aimsB (d c : Int) : Bool := decide (0 < d) && decide (max c (sat (-c)) ≤ d / 16)
def turnZ (d c : Int) : Int := if aimsB d c then 0 else if c < 0 then 1 else if 0 < c ∨ d ≤ 0 then 2 else 0
def driveZ (S : Nat → Int) (i : Nat) : Int := if 1310720 < norm (dxZ S i) (dyZ S i) then 4 else 8
def fireZ (S : Nat → Int) (i : Nat) (d c : Int) : Int := if aimsB d c && decide (getP S i 6 ≤ 1) then 16 else 0
def dashZ (S : Nat → Int) (i : Nat) : Int := if decide (getP S i 7 ≤ 1) && (throwZ (seedZ (S 1) (S 0)) 8 == i) then 32 else 0
section
variable (S : Nat → Int) (i : Nat) (d c : Int) (w : World)
end
end Go.Proofs.YtibeihcpehikoaaGreat
