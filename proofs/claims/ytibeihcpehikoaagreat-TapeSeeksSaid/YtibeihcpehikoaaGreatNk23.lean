/-
  The walks beneath: Game5, GameR, GameS.
-/
import Derived.Test.YtibeihcpehikoaaGreatNk22
import Derived.Test.YtibeihcpehikoaaGreatNk19
import Derived.Test.YtibeihcpehikoaaGreatNk20
import Derived.Test.YtibeihcpehikoaaGreatNk21
namespace Go.Proofs.YtibeihcpehikoaaGreat
open Go.RowKit
set_option maxRecDepth 100000
set_option maxHeartbeats 4000000
section
def playerB (p : Nat → Int) : Bool := inB (p 4) 0 65535 && (inB (p 5) 0 3 && (inB (p 6) 0 8 && (inB (p 7) 0 20 && (inB (p 8) 0 30 && (inB (p 9) 0 2 && (insideB (-3932160) (-3932160) 3932160 3932160 (p 0) (p 1) && (decide (0 < p 5) == (p 8 == 0))))))))
theorem gw (n lo hi : Int) (w : World) (b : Bool) (h : inB n lo hi = b) : Calls Tryz.prog 185 #[.int .i64 n, .int .i64 lo, .int .i64 hi] w fun e w' => e = .returned (.bool b) ∧ w = w' :=
 (gwithin_any n lo hi w).mono fun _ _ ⟨h1, h2⟩ => ⟨by rw [h1, h], h2⟩
theorem gins (lx ly hx hy x y : Int) (w : World) (b : Bool) (h : insideB lx ly hx hy x y = b) : Calls Tryz.prog 195 #[.agg #[.int .i32 lx, .int .i32 ly, .int .i32 hx, .int .i32 hy], .agg #[.int .i32 x, .int .i32 y]] w fun e w' => e = .returned (.bool b) ∧ Below w.heap.size w w' :=
 (sInside_any lx ly hx hy x y w).mono fun _ _ ⟨h1, h2⟩ => ⟨by rw [h1, h], h2⟩
section
variable (p : Nat → Int) (w : World)
theorem gplayer_any : Calls Tryz.prog 184 #[.agg #[.int .i32 (p 0), .int .i32 (p 1), .int .i32 (p 2), .int .i32 (p 3), .int .i64 (p 4), .int .i64 (p 5), .int .i64 (p 6), .int .i64 (p 7), .int .i64 (p 8), .int .i64 (p 9)]] w fun e w' => e = .returned (.bool (playerB p)) ∧ Below w.heap.size w w' := by
 unfold playerB
 cases h4 : inB (p 4) 0 65535
 case' true => cases h5 : inB (p 5) 0 3
 case' true.true => cases h6 : inB (p 6) 0 8
 case' true.true.true => cases h7 : inB (p 7) 0 20
 case' true.true.true.true => cases h8 : inB (p 8) 0 30
 case' true.true.true.true.true => cases h9 : inB (p 9) 0 2
 case' true.true.true.true.true.true => cases hi : insideB (-3932160) (-3932160) 3932160 3932160 (p 0) (p 1)
 all_goals
  have H4 := zz h4
  clear h4
  try (have H5 := zz h5; clear h5)
  try (have H6 := zz h6; clear h6)
  try (have H7 := zz h7; clear h7)
  try (have H8 := zz h8; clear h8)
  try (have H9 := zz h9; clear h9)
  try (have HI := zz hi; clear hi)
  simp only [Bool.false_and, Bool.true_and]
  go_enter Tryz.func184, Tryz.ntmps184
  go_wp2_with fail
  obtain ⟨W, hW⟩ : ∃ W, W = w.alloc (.cells #[.int .i32 (p 0), .int .i32 (p 1), .int .i32 (p 2), .int .i32 (p 3), .int .i64 (p 4), .int .i64 (p 5), .int .i64 (p 6), .int .i64 (p 7), .int .i64 (p 8), .int .i64 (p 9)] 35) := ⟨_, rfl⟩
  rw [← hW]
  have hk : Blk W w.heap.size 35 #[.int .i32 (p 0), .int .i32 (p 1), .int .i32 (p 2), .int .i32 (p 3), .int .i64 (p 4), .int .i64 (p 5), .int .i64 (p 6), .int .i64 (p 7), .int .i64 (p 8), .int .i64 (p 9)] := by rw [hW]; exact Blk.new _ _ _
  have hb : Below w.heap.size w W := by rw [hW]; exact bAlloc (Below.refl _ _) _
  have hl := hk.lt
  have c0 := hk.cell 0
  have c1 := hk.cell 1
  have c4 := hk.cell 4
  have c5 := hk.cell 5
  have c6 := hk.cell 6
  have c7 := hk.cell 7
  have c8 := hk.cell 8
  have c9 := hk.cell 9
  simp only [zA, zB, zC] at c0 c1 c4 c5 c6 c7 c8 c9
  clear hW hk
  refine wp_region_mild (by kernel_rfl) (by kernel_rfl) ?_
  repeat (go_big_quiet_step ((first | (go_at_call 185; first | (with_reducible exact mild_same (gw _ _ _ _ _ H4.out)) | (with_reducible exact mild_same (gw _ _ _ _ _ H5.out)) | (with_reducible exact mild_same (gw _ _ _ _ _ H6.out)) | (with_reducible exact mild_same (gw _ _ _ _ _ H7.out)) | (with_reducible exact mild_same (gw _ _ _ _ _ H8.out)) | (with_reducible exact mild_same (gw _ _ _ _ _ H9.out))) | (go_at_call 237; exact mild_of (gyard_any _)) | (go_at_call 195; exact mild_of (gins _ _ _ _ _ _ _ _ HI.out)))))
  refine wpQuiet_nil ?_
  intro w1 hw'
  obtain ⟨⟨wq, k1⟩, hw''⟩ := hw'
  subst hw''
  go_wp2
  go_ret
  exact ⟨rfl, bTrans hb k1⟩
end
def shotZ (x : Nat → Int) : Bool := decide (x 0 = 0) && (decide (x 1 = 0) && (decide (x 2 = 0) && (decide (x 3 = 0) && (decide (x 4 = 0) && decide (x 5 = 0)))))
def arenaB (x y : Int) : Bool := insideB (-4194304) (-4194304) 4194304 4194304 x y
def shotB (x : Nat → Int) : Bool := shotZ x || (inB (x 4) 1 2 && (inB (x 5) 1 40 && arenaB (x 0) (x 1)))
theorem nest_six {α : Type} (x : Nat → Int) (A B : α) : (if x 0 = 0 then if x 1 = 0 then if x 2 = 0 then if x 3 = 0 then if x 4 = 0 then if x 5 = 0 then A else B else B else B else B else B else B) = if shotZ x then A else B := by
 unfold shotZ
 by_cases h0 : x 0 = 0 <;> by_cases h1 : x 1 = 0 <;> by_cases h2 : x 2 = 0 <;> by_cases h3 : x 3 = 0 <;> by_cases h4 : x 4 = 0 <;> by_cases h5 : x 5 = 0 <;> simp [h0, h1, h2, h3, h4, h5]
section
variable (x : Nat → Int) (w : World)
theorem gshot_any : Calls Tryz.prog 183 #[.agg #[.int .i32 (x 0), .int .i32 (x 1), .int .i32 (x 2), .int .i32 (x 3), .int .i64 (x 4), .int .i64 (x 5)]] w fun e w' => e = .returned (.bool (shotB x)) ∧ Below w.heap.size w w' := by
 unfold shotB
 cases hz : shotZ x
 case' false => cases h4 : inB (x 4) 1 2
 case' false.true => cases h5 : inB (x 5) 1 40
 case' false.true.true =>
  obtain ⟨b, hi⟩ : ∃ b, arenaB (x 0) (x 1) = b := ⟨_, rfl⟩
  have HI := zz hi
  rw [hi]
  clear hi
 all_goals
  have HZ := zz hz
  clear hz
  try (have H4 := zz h4; clear h4)
  try (have H5 := zz h5; clear h5)
  simp only [Bool.false_and, Bool.false_or, Bool.true_and, Bool.true_or]
  go_enter Tryz.func183, Tryz.ntmps183
  go_wp2_with fail
  obtain ⟨W, hW⟩ : ∃ W, W = w.alloc (.cells #[.int .i32 (x 0), .int .i32 (x 1), .int .i32 (x 2), .int .i32 (x 3), .int .i64 (x 4), .int .i64 (x 5)] 38) := ⟨_, rfl⟩
  rw [← hW]
  have hk : Blk W w.heap.size 38 #[.int .i32 (x 0), .int .i32 (x 1), .int .i32 (x 2), .int .i32 (x 3), .int .i64 (x 4), .int .i64 (x 5)] := by rw [hW]; exact Blk.new _ _ _
  have hb : Below w.heap.size w W := by rw [hW]; exact bAlloc (Below.refl _ _) _
  have hl := hk.lt
  have c0 := hk.cell 0
  have c1 := hk.cell 1
  have c2 := hk.cell 2
  have c3 := hk.cell 3
  have c4 := hk.cell 4
  have c5 := hk.cell 5
  simp only [zA, zB, zC] at c0 c1 c2 c3 c4 c5
  clear hW hk
  refine wp_region_mild (by kernel_rfl) (by kernel_rfl) ?_
  repeat (go_big_quiet_step ((first | (rw [nest_six x, HZ.out]; exact ⟨rfl, rfl⟩) | (go_at_call 185; first | (with_reducible exact mild_same (gw _ _ _ _ _ H4.out)) | (with_reducible exact mild_same (gw _ _ _ _ _ H5.out))) | (go_at_call 196; exact mild_of (garena_any _)) | (go_at_call 195; exact mild_of (gins _ _ _ _ _ _ _ _ HI.out)))))
  refine wpQuiet_nil ?_
  intro w1 hw'
  obtain ⟨⟨wq, k1⟩, hw''⟩ := hw'
  subst hw''
  go_wp2
  go_ret
  exact ⟨rfl, bTrans hb k1⟩
end
end
section
def getS (S : Nat → Int) (k : Nat) : Nat → Int := fun j => S (24 + k * 6 + j)
def rightT (S : Nat → Int) : Bool := playerB (getP S 0) && (playerB (getP S 1) && (inB (S 0) 0 1073741824 && (inB (S 2) 0 1073741824 && inB (S 3) 1 600)))
def rightS (S : Nat → Int) : Bool := ((List.range 6).all fun k => shotB (getS S k)) && rightT S
theorem rightS_no {S : Nat → Int} {k : Nat} (hk : k < 6) (h : shotB (getS S k) = false) : rightS S = false := by
 unfold rightS
 have : (List.range 6).all (fun k => shotB (getS S k)) = false := by
  rw [List.all_eq_false]
  exact ⟨k, by simpa using hk, by simp [h]⟩
 rw [this]; rfl
theorem rightS_yes {S : Nat → Int} (h : ∀ j, j < 6 → shotB (getS S j) = true) : rightS S = rightT S := by
 unfold rightS
 have : (List.range 6).all (fun k => shotB (getS S k)) = true := by
  rw [List.all_eq_true]
  intro j hj
  exact h j (by simpa using hj)
 rw [this]; rfl
def shsCells (S : Nat → Int) : List Value := rowOf 36 fun j => Value.int (kdS (24 + j)) (S (24 + j))
theorem st_cell {w : World} {g : Nat} {S : Nat → Int} (h : Blk w g 41 (stCells S).toArray) (i : Nat) (hi : i < 60) : w.cell? ⟨g, i, none⟩ = some (.int (kdS i) (S i)) := by
 rw [h.cell i]
 simp [stCells, rowOf, hi]
theorem st_shots {w : World} {g : Nat} {S : Nat → Int} (h : Blk w g 41 (stCells S).toArray) : w.rangeAt g 24 (shsCells S) := fun j v hv => by
 have hj : j < 36 := by have := (List.getElem?_eq_some_iff.1 hv).1; rwa [shsCells, rowOf_length] at this
 rw [st_cell h (24 + j) (by omega), ← hv]
 simp [shsCells, rowOf, hj]
theorem index_shots (S : Nat → Int) (k : Nat) (hk : k < 6) (w : World) : (Instr.index 39 (.agg (shsCells S).toArray) (.int .i64 (k : Int))).run Tryz.prog w = .ok (.agg #[.int .i32 (getS S k 0), .int .i32 (getS S k 1), .int .i32 (getS S k 2), .int .i32 (getS S k 3), .int .i64 (getS S k 4), .int .i64 (getS S k 5)]) w := by
 have h2 : (0 : Int) ≤ k := by omega
 have h3 : ¬ 6 ≤ k := by omega
 have hk6 : k = 0 ∨ k = 1 ∨ k = 2 ∨ k = 3 ∨ k = 4 ∨ k = 5 := by omega
 rcases hk6 with rfl | rfl | rfl | rfl | rfl | rfl <;> simp [Instr.index, run_underlying Tryz.underlying39, part, go_sem, shsCells, rowOf] <;> exact ⟨⟨rfl, rfl⟩, ⟨rfl, rfl⟩, ⟨rfl, rfl⟩, ⟨rfl, rfl⟩, ⟨rfl, rfl⟩, rfl, rfl⟩
theorem st_pl0 {w : World} {g : Nat} {S : Nat → Int} (h : Blk w g 41 (stCells S).toArray) : w.rangeAt g 4 [.int .i32 (getP S 0 0), .int .i32 (getP S 0 1), .int .i32 (getP S 0 2), .int .i32 (getP S 0 3), .int .i64 (getP S 0 4), .int .i64 (getP S 0 5), .int .i64 (getP S 0 6), .int .i64 (getP S 0 7), .int .i64 (getP S 0 8), .int .i64 (getP S 0 9)] := fun j v hv => by
 have hj : j < 10 := (List.getElem?_eq_some_iff.1 hv).1
 rw [st_cell h (4 + j) (by omega), ← hv]
 have hj : j = 0 ∨ j = 1 ∨ j = 2 ∨ j = 3 ∨ j = 4 ∨ j = 5 ∨ j = 6 ∨ j = 7 ∨ j = 8 ∨ j = 9 := by omega
 rcases hj with rfl | rfl | rfl | rfl | rfl | rfl | rfl | rfl | rfl | rfl <;> rfl
theorem st_one {w : World} {g : Nat} {S : Nat → Int} (h : Blk w g 41 (stCells S).toArray) : w.cell? ⟨g, 14, none⟩ = some (.int .i32 (S 14)) ∧ w.cell? ⟨g, 15, none⟩ = some (.int .i32 (S 15)) ∧ w.cell? ⟨g, 16, none⟩ = some (.int .i32 (S 16)) ∧ w.cell? ⟨g, 17, none⟩ = some (.int .i32 (S 17)) ∧ w.cell? ⟨g, 18, none⟩ = some (.int .i64 (S 18)) ∧ w.cell? ⟨g, 19, none⟩ = some (.int .i64 (S 19)) ∧ w.cell? ⟨g, 20, none⟩ = some (.int .i64 (S 20)) ∧ w.cell? ⟨g, 21, none⟩ = some (.int .i64 (S 21)) ∧ w.cell? ⟨g, 22, none⟩ = some (.int .i64 (S 22)) ∧ w.cell? ⟨g, 23, none⟩ = some (.int .i64 (S 23)) :=
 ⟨st_cell h 14 (by decide), st_cell h 15 (by decide), st_cell h 16 (by decide), st_cell h 17 (by decide), st_cell h 18 (by decide), st_cell h 19 (by decide), st_cell h 20 (by decide), st_cell h 21 (by decide), st_cell h 22 (by decide), st_cell h 23 (by decide)⟩
theorem st_h {w : World} {g : Nat} {S : Nat → Int} (h : Blk w g 41 (stCells S).toArray) : w.cell? ⟨g, 0, none⟩ = some (.int .i64 (S 0)) ∧ w.cell? ⟨g, 2, none⟩ = some (.int .i64 (S 2)) ∧ w.cell? ⟨g, 3, none⟩ = some (.int .i64 (S 3)) :=
 ⟨st_cell h 0 (by decide), st_cell h 2 (by decide), st_cell h 3 (by decide)⟩
theorem gpl (p : Nat → Int) (w : World) (b : Bool) (h : playerB p = b) : Calls Tryz.prog 184 #[.agg #[.int .i32 (p 0), .int .i32 (p 1), .int .i32 (p 2), .int .i32 (p 3), .int .i64 (p 4), .int .i64 (p 5), .int .i64 (p 6), .int .i64 (p 7), .int .i64 (p 8), .int .i64 (p 9)]] w fun e w' => e = .returned (.bool b) ∧ Below w.heap.size w w' :=
 (gplayer_any p w).mono fun _ _ ⟨h1, h2⟩ => ⟨by rw [h1, h], h2⟩
theorem gplS (S : Nat → Int) (w : World) (b : Bool) (h : playerB (getP S 1) = b) : Calls Tryz.prog 184 #[.agg #[.int .i32 (S 14), .int .i32 (S 15), .int .i32 (S 16), .int .i32 (S 17), .int .i64 (S 18), .int .i64 (S 19), .int .i64 (S 20), .int .i64 (S 21), .int .i64 (S 22), .int .i64 (S 23)]] w fun e w' => e = .returned (.bool b) ∧ Below w.heap.size w w' := gpl (getP S 1) w b h
theorem gsh (x : Nat → Int) (w : World) (b : Bool) (h : shotB x = b) : Calls Tryz.prog 183 #[.agg #[.int .i32 (x 0), .int .i32 (x 1), .int .i32 (x 2), .int .i32 (x 3), .int .i64 (x 4), .int .i64 (x 5)]] w fun e w' => e = .returned (.bool b) ∧ Below w.heap.size w w' :=
 (gshot_any x w).mono fun _ _ ⟨h1, h2⟩ => ⟨by rw [h1, h], h2⟩
theorem gRight_any (S : Nat → Int) (w : World) : Calls Tryz.prog 119 #[.agg (stCells S).toArray] w fun e w' => e = .returned (.bool (rightS S)) ∧ Below w.heap.size w w' := by
 go_enter Tryz.func119, Tryz.ntmps119
 have hk0 : Blk (w.alloc (.cells (stCells S).toArray 41)) w.heap.size 41 (stCells S).toArray := Blk.new _ _ _
 have hbb : Below w.heap.size w (w.alloc (.cells (stCells S).toArray 41)) := bAlloc (Below.refl _ _) _
 obtain ⟨W, hW⟩ : ∃ W, W = w.alloc (.cells (stCells S).toArray 41) := ⟨_, rfl⟩
 rw [← hW] at hk0 hbb
 have HK0 := zz hk0
 have HW := zz hW
 clear hk0 hW
 go_wp2_with (first | (rw [← HW.out]; refine wpList_load_mid rfl 39 (.tmp 5) rfl w.heap.size 24 rfl (shsCells S) _ (st_shots HK0.out) Tryz.underlying39 rfl (by kernel_rfl) ?_))
 go_loopw [7] (fun v wr => ∃ k : Nat, k ≤ 6 ∧ v = .int .i64 k ∧ (∀ j, j < k → shotB (getS S j) = true) ∧ Hid (Blk wr w.heap.size 41 (stCells S).toArray) ∧ Below w.heap.size w wr) (fun v _ => 6 - (intOf v).toNat)
 case atStart => exact ⟨0, by decide, rfl, fun j hj => absurd hj (Nat.not_lt_zero j), HK0, hbb⟩
 case round =>
  obtain ⟨k, hk, rfl, hall, HK, hb⟩ := hrel
  have HALL := zz hall
  clear hall
  have hlb := HK.out.lt
  by_cases hlt : k < 6
  ·have hix := fun w => index_shots S k hlt w
   obtain ⟨b, hs⟩ : ∃ b, shotB (getS S k) = b := ⟨_, rfl⟩
   have HSB := zz hs
   have HN := zz (fun (h : b = false) => rightS_no hlt (hs.trans h))
   clear hs
   have hk2 : (k : Int) < 6 := by omega
   cases b
   all_goals
    go_wp2_with (first | (go_at_call 183; refine (gsh (getS S k) _ _ HSB.out).mono ?_; rintro e w1 ⟨rfl, k1⟩))
   ·go_ret
    exact ⟨ret_bool (HN.out (by first | rfl | trivial)).symm, bTrans (bAlloc hb _) k1⟩
   ·go_roundw
    case rel => exact ⟨k + 1, by omega, by go_num, fun j hj => (by
     rcases Nat.lt_or_ge j k with h | h
     ·exact HALL.out j h
     ·obtain rfl : j = k := by omega
      exact HSB.out), zz ((HK.out.alloc _).on k1), bTrans (bAlloc hb _) k1⟩
    case measure => simp [intOf]; omega
  ·obtain rfl : k = 6 := by omega
   have hfin := rightS_yes HALL.out
   unfold rightT at hfin
   have hbw := hb
   cases h0 : playerB (getP S 0)
   case' true => cases h1 : playerB (getP S 1)
   case' true.true => cases h2 : inB (S 0) 0 1073741824
   case' true.true.true => cases h3 : inB (S 2) 0 1073741824
   case' true.true.true.true => obtain ⟨b, h4⟩ : ∃ b, inB (S 3) 1 600 = b := ⟨_, rfl⟩
   all_goals
    rw [h0] at hfin
    have H0 := zz h0
    clear h0
    try (rw [h1] at hfin; have H1 := zz h1; clear h1)
    try (rw [h2] at hfin; have H2 := zz h2; clear h2)
    try (rw [h3] at hfin; have H3 := zz h3; clear h3)
    try (rw [h4] at hfin; have H4 := zz h4; clear h4)
    simp only [Bool.false_and, Bool.true_and] at hfin
    have HFIN := zz hfin
    clear hfin
    go_wp2_with (first | (refine wpList_load_mid rfl 35 (.tmp 15) rfl w.heap.size 4 rfl [.int .i32 (getP S 0 0), .int .i32 (getP S 0 1), .int .i32 (getP S 0 2), .int .i32 (getP S 0 3), .int .i64 (getP S 0 4), .int .i64 (getP S 0 5), .int .i64 (getP S 0 6), .int .i64 (getP S 0 7), .int .i64 (getP S 0 8), .int .i64 (getP S 0 9)] _ (st_pl0 HK.out) Tryz.underlying35 rfl (by kernel_rfl) ?_) | (go_at_call 184; first | ((with_reducible refine (gpl (getP S 0) _ _ H0.out).mono ?_); rintro e w1 ⟨rfl, k1⟩; have HK1 := zz (HK.out.on k1); have hbw := bTrans hb k1; have hl1 := HK1.out.lt; obtain ⟨d0, d1, d2, d3, d4, d5, d6, d7, d8, d9⟩ := st_one HK1.out) | ((with_reducible refine (gplS S _ _ H1.out).mono ?_); rintro e w2 ⟨rfl, k2⟩; have HK2 := zz (HK1.out.on k2); have hbw := bTrans hbw k2; have hl2 := HK2.out.lt; obtain ⟨c0, c2, c3⟩ := st_h HK2.out)) | (go_at_call 185; first | ((with_reducible refine (gw _ _ _ _ _ H2.out).mono ?_); rintro e w3 ⟨rfl, rfl⟩) | ((with_reducible refine (gw _ _ _ _ _ H3.out).mono ?_); rintro e w3 ⟨rfl, rfl⟩) | ((with_reducible refine (gw _ _ _ _ _ H4.out).mono ?_); rintro e w3 ⟨rfl, rfl⟩)))
    go_ret
    exact ⟨ret_bool HFIN.out.symm, hbw⟩
end
section
def putS (S : Nat → Int) (k : Nat) (x : Nat → Int) : Nat → Int := fun j => if 24 + k * 6 ≤ j ∧ j < 24 + k * 6 + 6 then x (j - (24 + k * 6)) else S j
theorem putS_at (S : Nat → Int) (k : Nat) (x : Nat → Int) (j : Nat) (hj : j < 6) : putS S k x (24 + k * 6 + j) = x j := by
 unfold putS; rw [if_pos (by omega)]; congr 1; omega
theorem putS_other (S : Nat → Int) (k : Nat) (x : Nat → Int) (j : Nat) (hj : j < 24 + k * 6 ∨ 24 + k * 6 + 6 ≤ j) : putS S k x j = S j := by
 unfold putS; rw [if_neg (by omega)]
theorem upd_putS (S : Nat → Int) (k : Nat) (x : Nat → Int) (j : Nat) (v : Int) (hj : j < 6) : upd (putS S k x) (24 + k * 6 + j) v = putS S k (upd x j v) := by
 funext m
 by_cases h : m = 24 + k * 6 + j
 ·subst h; rw [upd_same, putS_at S k _ j hj, upd_same]
 ·rw [upd_other _ _ _ _ h]
  unfold putS
  by_cases h2 : 24 + k * 6 ≤ m ∧ m < 24 + k * 6 + 6
  ·rw [if_pos h2, if_pos h2, upd_other _ _ _ _ (by omega)]
  ·rw [if_neg h2, if_neg h2]
theorem putS_get (S : Nat → Int) (k : Nat) : putS S k (getS S k) = S := by
 funext m
 unfold putS getS
 split
 ·congr 1; omega
 ·rfl
theorem putS_congr (S : Nat → Int) (k : Nat) (x y : Nat → Int) (h : ∀ j, j < 6 → x j = y j) : putS S k x = putS S k y := by
 funext m
 unfold putS
 split
 ·exact h _ (by omega)
 ·rfl
theorem putP_congr (S : Nat → Int) (i : Nat) (x y : Nat → Int) (h : ∀ j, j < 10 → x j = y j) : putP S i x = putP S i y := by
 funext m
 unfold putP
 split
 ·exact h _ (by omega)
 ·rfl
theorem putP_putP (S : Nat → Int) (i : Nat) (p q : Nat → Int) : putP (putP S i p) i q = putP S i q := by
 funext m
 unfold putP
 split <;> rfl
theorem putS_putS (S : Nat → Int) (k : Nat) (p q : Nat → Int) : putS (putS S k p) k q = putS S k q := by
 funext m
 unfold putS
 split <;> rfl
theorem putS_putP (S : Nat → Int) (i k : Nat) (hi : i < 2) (p x : Nat → Int) : putS (putP S i p) k x = putP (putS S k x) i p := by
 funext m
 unfold putP putS
 by_cases h1 : 24 + k * 6 ≤ m ∧ m < 24 + k * 6 + 6
 ·rw [if_pos h1, if_neg (by omega), if_pos h1]
 ·rw [if_neg h1, if_neg h1]
theorem getP_putP (S : Nat → Int) (i : Nat) (p : Nat → Int) (j : Nat) (hj : j < 10) : getP (putP S i p) i j = p j := putP_at S i p j hj
theorem getP_putP_ne (S : Nat → Int) (i m : Nat) (hne : i ≠ m) (p : Nat → Int) (j : Nat) (hj : j < 10) : getP (putP S i p) m j = getP S m j := by
 unfold getP; exact putP_other S i p _ (by omega)
theorem getP_putS (S : Nat → Int) (i k : Nat) (hi : i < 2) (x : Nat → Int) (j : Nat) (hj : j < 10) : getP (putS S k x) i j = getP S i j := by
 unfold getP; exact putS_other S k x _ (by omega)
theorem getS_putP (S : Nat → Int) (i k : Nat) (hi : i < 2) (p : Nat → Int) : getS (putP S i p) k = getS S k := by
 funext j; unfold getS; exact putP_other S i p _ (by omega)
theorem getS_putS (S : Nat → Int) (k : Nat) (x : Nat → Int) (j : Nat) (hj : j < 6) : getS (putS S k x) k j = x j := putS_at S k x j hj
theorem getS_putS_ne (S : Nat → Int) (k m : Nat) (hne : k ≠ m) (x : Nat → Int) (j : Nat) (hj : j < 6) : getS (putS S k x) m j = getS S m j := by
 unfold getS; exact putS_other S k x _ (by omega)
def freeFrom (S : Nat → Int) : Nat → Nat → Nat
 | 0, k => k
 | n + 1, k => if S (24 + k * 6 + 4) = 0 then k else freeFrom S n (k + 1)
def freeK (S : Nat → Int) : Nat := freeFrom S 6 0
def shotOf (p : Nat → Int) (i : Nat) : Nat → Int := fun j =>
 if j = 0 then padd (p 0) (hdX (p 4) 262144) else if j = 1 then padd (p 1) (hdY (p 4) 262144) else if j = 2 then hdX (p 4) 196608 else if j = 3 then hdY (p 4) 196608 else if j = 4 then (i : Int) + 1 else 40
abbrev StL : Type := (Nat → Int) × List Ev
def fireS (i : Nat) (F : Int) (s : StL) : StL :=
 let p := getP s.1 i
 if 0 < p 6 then s else if freeK s.1 < 6 then (putP (putS s.1 (freeK s.1) (shotOf p i)) i (upd p 6 8), addE F s.2 (evT ((i : Int) + 1) 1 1 16384 5 0 (p 0))) else s
def steerP (p : Nat → Int) (n : Nat) : Nat → Int := pSlow (pDash (pThrust (pBrake (pFace (pCool p) n) n) n) n)
def steerL (i : Nat) (p : Nat → Int) (n : Nat) (F : Int) (L : List Ev) : List Ev := lDash i (pThrust (pBrake (pFace (pCool p) n) n) n) n F (lThrust i (pBrake (pFace (pCool p) n) n) n F L)
def playS (i : Nat) (n : Nat) (F : Int) (s : StL) : StL :=
 let p := getP s.1 i
 if 1 < p 8 then (putP s.1 i (upd p 8 (p 8 - 1)), s.2)
 else if p 8 = 1 then (putP (upd s.1 1 (nextZ (s.1 1))) i (pBack p (throwZ (s.1 1) 4)), addE F s.2 (evT ((i : Int) + 1) 6 6 16384 9 0 (cornX (throwZ (s.1 1) 4))))
 else
  let t : StL := (putP s.1 i (pMove (steerP p n)), lMove i (steerP p n) F (steerL i p n F s.2))
  if bit n 16 then fireS i F t else t
def clashB (S : Nat → Int) : Bool := decide (S 12 = 0) && (decide (S 22 = 0) && touchB (S 4) (S 5) 262144 (S 14) (S 15) 262144)
def clashS (F : Int) (s : StL) : StL :=
 if clashB s.1 then (upd (upd (upd (upd s.1 6 (s.1 16)) 7 (s.1 17)) 16 (s.1 6)) 17 (s.1 7), addE F s.2 (evT 0 4 4 16384 6 0 0)) else s
def hitS (i : Nat) (F : Int) (s : StL) : StL :=
 let p := getP s.1 i
 let L1 := addE F s.2 (evT ((i : Int) + 1) 2 2 32768 8 0 (p 0))
 if 0 < p 5 - 1 then (putP s.1 i (upd p 5 (p 5 - 1)), L1)
 else (upd (putP s.1 i (upd (upd p 5 (p 5 - 1)) 8 30)) (4 + (1 - i) * 10 + 9) (s.1 (4 + (1 - i) * 10 + 9) + 1), addE F L1 (evT ((i : Int) + 1) 5 5 32768 10 0 (p 0)))
def shotNext (x : Nat → Int) : Nat → Int := upd (upd (upd x 5 (x 5 - 1)) 0 (padd (x 0) (x 2))) 1 (padd (x 1) (x 3))
def otherOf (o : Int) : Nat := if o = 2 then 0 else 1
def hitB (S x : Nat → Int) (o : Nat) : Bool := decide (S (4 + o * 10 + 8) = 0) && touchB (x 0) (x 1) 65536 (S (4 + o * 10)) (S (4 + o * 10 + 1)) 262144
def zeroS : Nat → Int := fun _ => 0
def flyT (k : Nat) (F : Int) (s : StL) : Bool × StL :=
 let x := getS s.1 k
 let y := shotNext x
 if x 5 - 1 = 0 then (false, (putS s.1 k (upd x 5 (x 5 - 1)), s.2))
 else if arenaB (y 0) (y 1) = false then (false, (putS s.1 k y, s.2))
 else if hitB s.1 y (otherOf (x 4)) then (false, hitS (otherOf (x 4)) F (putS s.1 k y, s.2))
 else (true, (putS s.1 k y, s.2))
def flyS (k : Nat) (F : Int) (s : StL) : StL :=
 if s.1 (24 + k * 6 + 4) = 0 then s else if (flyT k F s).1 then (flyT k F s).2 else (putS (flyT k F s).2.1 k zeroS, (flyT k F s).2.2)
def flyTo (F : Int) (s : StL) : Nat → StL
 | 0 => s
 | k + 1 => flyS k F (flyTo F s k)
def freshP (i : Nat) : Nat → Int := fun j => if j = 0 then (if i = 1 then 2097152 else -2097152) else if j = 4 then (if i = 1 then 32768 else 0) else if j = 5 then 3 else 0
def overB (S : Nat → Int) : Bool := decide (S 3 - 1 ≤ 0) || (decide (3 ≤ S 13) || decide (3 ≤ S 23))
def clearS (S : Nat → Int) : Nat → Int := fun j => if 24 ≤ j ∧ j < 60 then 0 else S j
def roundS (F : Int) (s : StL) : StL :=
 if overB s.1 then (clearS (putP (putP (upd (upd s.1 2 (s.1 2 + 1)) 3 600) 0 (freshP 0)) 1 (freshP 1)), addE F s.2 (evT 0 7 7 32768 12 0 0))
 else (upd s.1 3 (s.1 3 - 1), s.2)
def stepS (n0 n1 : Nat) (S : Nat → Int) : StL :=
 let F := S 0
 let t := roundS F (flyTo F (clashS F (playS 1 n1 F (playS 0 n0 F (S, [])))) 6)
 (upd t.1 0 (F + 1), t.2)
end
end Go.Proofs.YtibeihcpehikoaaGreat
