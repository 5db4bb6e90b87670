/-
  May a state be? The program's answer.
-/
import Derived.Test.YtnaclkaapicelaaGreatGame5
import Derived.Deep.MidRow
namespace Go.Proofs.YtnaclkaapicelaaGreat
open Go.RowKit
set_option maxRecDepth 100000
def FitS (S : Nat → Int) : Prop := ∀ i, i < 60 → (Lit.int (kdS i) (S i)).wf = true
theorem FitS.f32 {S : Nat → Int} (h : FitS S) (i : Nat) (hi : i < 60) (hk : kdS i = .i32) : F32 (S i) := by
  have := h i hi
  rw [hk] at this
  exact bounds_i32 this
theorem FitS.u32 {S : Nat → Int} (h : FitS S) : U32 (S 1) := bounds_u32 (h 1 (by decide))
def getS (S : Nat → Int) (k : Nat) : Nat → Int := fun j => S (24 + k * 6 + j)
def rightT (S : Nat → Int) : Bool := playerB (getP S 0) && (playerB (getP S 1) && (inB (S 0) 0 1073741824 && (inB (S 2) 0 1073741824 && inB (S 3) 1 600)))
def rightS (S : Nat → Int) : Bool := ((List.range 6).all fun k => shotB (getS S k)) && rightT S
theorem rightS_no {S : Nat → Int} {k : Nat} (hk : k < 6) (h : shotB (getS S k) = false) : rightS S = false := by
  unfold rightS
  have : (List.range 6).all (fun k => shotB (getS S k)) = false := by
    rw [List.all_eq_false]
    exact ⟨k, by simpa using hk, by simp [h]⟩
  rw [this]; rfl
theorem rightS_yes {S : Nat → Int} (h : ∀ j, j < 6 → shotB (getS S j) = true) : rightS S = rightT S := by
  unfold rightS
  have : (List.range 6).all (fun k => shotB (getS S k)) = true := by
    rw [List.all_eq_true]
    intro j hj
    exact h j (by simpa using hj)
  rw [this]; rfl
def shsCells (S : Nat → Int) : List Value := rowOf 36 fun j => Value.int (kdS (24 + j)) (S (24 + j))
theorem st_cell {w : World} {g : Nat} {S : Nat → Int} (h : Blk w g 33 (stCells S).toArray) (i : Nat) (hi : i < 60) : w.cell? ⟨g, i, none⟩ = some (.int (kdS i) (S i)) := by
  rw [h.cell i]
  simp [stCells, rowOf, hi]
theorem st_shots {w : World} {g : Nat} {S : Nat → Int} (h : Blk w g 33 (stCells S).toArray) : w.rangeAt g 24 (shsCells S) := fun j v hv => by
  have hj : j < 36 := by have := (List.getElem?_eq_some_iff.1 hv).1; rwa [shsCells, rowOf_length] at this
  rw [st_cell h (24 + j) (by omega), ← hv]
  simp [shsCells, rowOf, hj]
theorem index_shots (S : Nat → Int) (k : Nat) (hk : k < 6) (w : World) : (Instr.index 31 (.agg (shsCells S).toArray) (.int .i64 (k : Int))).run Tryz.prog w = .ok (.agg #[.int .i32 (getS S k 0), .int .i32 (getS S k 1), .int .i32 (getS S k 2), .int .i32 (getS S k 3), .int .i64 (getS S k 4), .int .i64 (getS S k 5)]) w := by
  have h2 : (0 : Int) ≤ k := by omega
  have h3 : ¬ 6 ≤ k := by omega
  have hk6 : k = 0 ∨ k = 1 ∨ k = 2 ∨ k = 3 ∨ k = 4 ∨ k = 5 := by omega
  rcases hk6 with rfl | rfl | rfl | rfl | rfl | rfl <;> simp [Instr.index, run_underlying Tryz.underlying31, part, go_sem, shsCells, rowOf] <;> exact ⟨⟨rfl, rfl⟩, ⟨rfl, rfl⟩, ⟨rfl, rfl⟩, ⟨rfl, rfl⟩, ⟨rfl, rfl⟩, rfl, rfl⟩

theorem st_pl0 {w : World} {g : Nat} {S : Nat → Int} (h : Blk w g 33 (stCells S).toArray) : w.rangeAt g 4 [.int .i32 (getP S 0 0), .int .i32 (getP S 0 1), .int .i32 (getP S 0 2), .int .i32 (getP S 0 3), .int .i64 (getP S 0 4), .int .i64 (getP S 0 5), .int .i64 (getP S 0 6), .int .i64 (getP S 0 7), .int .i64 (getP S 0 8), .int .i64 (getP S 0 9)] := fun j v hv => by
  have hj : j < 10 := (List.getElem?_eq_some_iff.1 hv).1
  rw [st_cell h (4 + j) (by omega), ← hv]
  have hj : j = 0 ∨ j = 1 ∨ j = 2 ∨ j = 3 ∨ j = 4 ∨ j = 5 ∨ j = 6 ∨ j = 7 ∨ j = 8 ∨ j = 9 := by omega
  rcases hj with rfl | rfl | rfl | rfl | rfl | rfl | rfl | rfl | rfl | rfl <;> rfl
theorem st_pl1 {w : World} {g : Nat} {S : Nat → Int} (h : Blk w g 33 (stCells S).toArray) : w.rangeAt g 14 [.int .i32 (getP S 1 0), .int .i32 (getP S 1 1), .int .i32 (getP S 1 2), .int .i32 (getP S 1 3), .int .i64 (getP S 1 4), .int .i64 (getP S 1 5), .int .i64 (getP S 1 6), .int .i64 (getP S 1 7), .int .i64 (getP S 1 8), .int .i64 (getP S 1 9)] := fun j v hv => by
  have hj : j < 10 := (List.getElem?_eq_some_iff.1 hv).1
  rw [st_cell h (14 + j) (by omega), ← hv]
  have hj : j = 0 ∨ j = 1 ∨ j = 2 ∨ j = 3 ∨ j = 4 ∨ j = 5 ∨ j = 6 ∨ j = 7 ∨ j = 8 ∨ j = 9 := by omega
  rcases hj with rfl | rfl | rfl | rfl | rfl | rfl | rfl | rfl | rfl | rfl <;> rfl
theorem st_one {w : World} {g : Nat} {S : Nat → Int} (h : Blk w g 33 (stCells S).toArray) : w.cell? ⟨g, 14, none⟩ = some (.int .i32 (S 14)) ∧ w.cell? ⟨g, 15, none⟩ = some (.int .i32 (S 15)) ∧ w.cell? ⟨g, 16, none⟩ = some (.int .i32 (S 16)) ∧ w.cell? ⟨g, 17, none⟩ = some (.int .i32 (S 17)) ∧ w.cell? ⟨g, 18, none⟩ = some (.int .i64 (S 18)) ∧ w.cell? ⟨g, 19, none⟩ = some (.int .i64 (S 19)) ∧ w.cell? ⟨g, 20, none⟩ = some (.int .i64 (S 20)) ∧ w.cell? ⟨g, 21, none⟩ = some (.int .i64 (S 21)) ∧ w.cell? ⟨g, 22, none⟩ = some (.int .i64 (S 22)) ∧ w.cell? ⟨g, 23, none⟩ = some (.int .i64 (S 23)) :=
  ⟨st_cell h 14 (by decide), st_cell h 15 (by decide), st_cell h 16 (by decide), st_cell h 17 (by decide), st_cell h 18 (by decide), st_cell h 19 (by decide), st_cell h 20 (by decide), st_cell h 21 (by decide), st_cell h 22 (by decide), st_cell h 23 (by decide)⟩
theorem st_h {w : World} {g : Nat} {S : Nat → Int} (h : Blk w g 33 (stCells S).toArray) : w.cell? ⟨g, 0, none⟩ = some (.int .i64 (S 0)) ∧ w.cell? ⟨g, 2, none⟩ = some (.int .i64 (S 2)) ∧ w.cell? ⟨g, 3, none⟩ = some (.int .i64 (S 3)) :=
  ⟨st_cell h 0 (by decide), st_cell h 2 (by decide), st_cell h 3 (by decide)⟩
theorem gpl (p : Nat → Int) (w : World) (b : Bool) (h : playerB p = b) : Calls Tryz.prog 31 #[.agg #[.int .i32 (p 0), .int .i32 (p 1), .int .i32 (p 2), .int .i32 (p 3), .int .i64 (p 4), .int .i64 (p 5), .int .i64 (p 6), .int .i64 (p 7), .int .i64 (p 8), .int .i64 (p 9)]] w fun e w' => e = .returned (.bool b) ∧ Below w.heap.size w w' :=
  (gplayer_any p w).mono fun _ _ ⟨h1, h2⟩ => ⟨by rw [h1, h], h2⟩
theorem gplS (S : Nat → Int) (w : World) (b : Bool) (h : playerB (getP S 1) = b) : Calls Tryz.prog 31 #[.agg #[.int .i32 (S 14), .int .i32 (S 15), .int .i32 (S 16), .int .i32 (S 17), .int .i64 (S 18), .int .i64 (S 19), .int .i64 (S 20), .int .i64 (S 21), .int .i64 (S 22), .int .i64 (S 23)]] w fun e w' => e = .returned (.bool b) ∧ Below w.heap.size w w' := gpl (getP S 1) w b h
theorem gsh (x : Nat → Int) (w : World) (b : Bool) (h : shotB x = b) : Calls Tryz.prog 30 #[.agg #[.int .i32 (x 0), .int .i32 (x 1), .int .i32 (x 2), .int .i32 (x 3), .int .i64 (x 4), .int .i64 (x 5)]] w fun e w' => e = .returned (.bool b) ∧ Below w.heap.size w w' :=
  (gshot_any x w).mono fun _ _ ⟨h1, h2⟩ => ⟨by rw [h1, h], h2⟩
set_option maxHeartbeats 4000000 in
theorem gRight_any (S : Nat → Int) (w : World) : Calls Tryz.prog 9 #[.agg (stCells S).toArray] w fun e w' => e = .returned (.bool (rightS S)) ∧ Below w.heap.size w w' := by
  go_enter Tryz.func9, Tryz.ntmps9
  have hk0 : Blk (w.alloc (.cells (stCells S).toArray 33)) w.heap.size 33 (stCells S).toArray := Blk.new _ _ _
  have hbb : Below w.heap.size w (w.alloc (.cells (stCells S).toArray 33)) := bAlloc (Below.refl _ _) _
  obtain ⟨W, hW⟩ : ∃ W, W = w.alloc (.cells (stCells S).toArray 33) := ⟨_, rfl⟩
  rw [← hW] at hk0 hbb
  have HK0 := Lib.hid hk0
  have HW := Lib.hid hW
  clear hk0 hW
  go_wp2_with (first | (rw [← HW.out]; refine wpList_load_mid rfl 31 (.tmp 5) rfl w.heap.size 24 rfl (shsCells S) _ (st_shots HK0.out) Tryz.underlying31 rfl (by kernel_rfl) ?_))
  go_loopw [7] (fun v wr => ∃ k : Nat, k ≤ 6 ∧ v = .int .i64 k ∧ (∀ j, j < k → shotB (getS S j) = true) ∧ Hid (Blk wr w.heap.size 33 (stCells S).toArray) ∧ Below w.heap.size w wr) (fun v _ => 6 - (intOf v).toNat)
  case atStart => exact ⟨0, by decide, rfl, fun j hj => absurd hj (Nat.not_lt_zero j), HK0, hbb⟩
  case round =>
    obtain ⟨k, hk, rfl, hall, HK, hb⟩ := hrel
    have HALL := Lib.hid hall
    clear hall
    have hlb := HK.out.lt
    by_cases hlt : k < 6
    · have hix := fun w => index_shots S k hlt w
      obtain ⟨b, hs⟩ : ∃ b, shotB (getS S k) = b := ⟨_, rfl⟩
      have HSB := Lib.hid hs
      have HN := Lib.hid (fun (h : b = false) => rightS_no hlt (hs.trans h))
      clear hs
      have hk2 : (k : Int) < 6 := by omega
      cases b
      all_goals
        go_wp2_with (first | (go_at_call 30; refine (gsh (getS S k) _ _ HSB.out).mono ?_; rintro e w1 ⟨rfl, k1⟩))
      · go_ret
        exact ⟨ret_bool (HN.out (by first | rfl | trivial)).symm, bTrans (bAlloc hb _) k1⟩
      · go_roundw
        case rel => exact ⟨k + 1, by omega, by go_num, fun j hj => (by
          rcases Nat.lt_or_ge j k with h | h
          · exact HALL.out j h
          · obtain rfl : j = k := by omega
            exact HSB.out), Lib.hid ((HK.out.alloc _).on k1), bTrans (bAlloc hb _) k1⟩
        case measure => simp [intOf]; omega
    · obtain rfl : k = 6 := by omega
      have hfin := rightS_yes HALL.out
      unfold rightT at hfin
      have hbw := hb
      cases h0 : playerB (getP S 0)
      · rw [h0] at hfin
        simp only [Bool.false_and] at hfin
        have H0 := Lib.hid h0
        have HFIN := Lib.hid hfin
        clear h0 hfin
        go_wp2_with (first | (refine wpList_load_mid rfl 27 (.tmp 15) rfl w.heap.size 4 rfl [.int .i32 (getP S 0 0), .int .i32 (getP S 0 1), .int .i32 (getP S 0 2), .int .i32 (getP S 0 3), .int .i64 (getP S 0 4), .int .i64 (getP S 0 5), .int .i64 (getP S 0 6), .int .i64 (getP S 0 7), .int .i64 (getP S 0 8), .int .i64 (getP S 0 9)] _ (st_pl0 HK.out) Tryz.underlying27 rfl (by kernel_rfl) ?_) | (go_at_call 31; first | ((with_reducible refine (gpl (getP S 0) _ _ H0.out).mono ?_); rintro e w1 ⟨rfl, k1⟩; have HK1 := Lib.hid (HK.out.on k1); have hbw := bTrans hb k1; have hl1 := HK1.out.lt; obtain ⟨d0, d1, d2, d3, d4, d5, d6, d7, d8, d9⟩ := st_one HK1.out) | ((with_reducible refine (gplS S _ _ H1.out).mono ?_); rintro e w2 ⟨rfl, k2⟩; have HK2 := Lib.hid (HK1.out.on k2); have hbw := bTrans hbw k2; have hl2 := HK2.out.lt; obtain ⟨c0, c2, c3⟩ := st_h HK2.out)) | (go_at_call 32; first | ((with_reducible refine (gw _ _ _ _ _ H2.out).mono ?_); rintro e w3 ⟨rfl, rfl⟩) | ((with_reducible refine (gw _ _ _ _ _ H3.out).mono ?_); rintro e w3 ⟨rfl, rfl⟩) | ((with_reducible refine (gw _ _ _ _ _ H4.out).mono ?_); rintro e w3 ⟨rfl, rfl⟩)))
        go_ret
        exact ⟨ret_bool HFIN.out.symm, hbw⟩
      have H0 := Lib.hid h0
      rw [h0] at hfin
      clear h0
      cases h1 : playerB (getP S 1)
      · rw [h1] at hfin
        simp only [Bool.false_and, Bool.true_and] at hfin
        have H1 := Lib.hid h1
        have HFIN := Lib.hid hfin
        clear h1 hfin
        go_wp2_with (first | (refine wpList_load_mid rfl 27 (.tmp 15) rfl w.heap.size 4 rfl [.int .i32 (getP S 0 0), .int .i32 (getP S 0 1), .int .i32 (getP S 0 2), .int .i32 (getP S 0 3), .int .i64 (getP S 0 4), .int .i64 (getP S 0 5), .int .i64 (getP S 0 6), .int .i64 (getP S 0 7), .int .i64 (getP S 0 8), .int .i64 (getP S 0 9)] _ (st_pl0 HK.out) Tryz.underlying27 rfl (by kernel_rfl) ?_) | (go_at_call 31; first | ((with_reducible refine (gpl (getP S 0) _ _ H0.out).mono ?_); rintro e w1 ⟨rfl, k1⟩; have HK1 := Lib.hid (HK.out.on k1); have hbw := bTrans hb k1; have hl1 := HK1.out.lt; obtain ⟨d0, d1, d2, d3, d4, d5, d6, d7, d8, d9⟩ := st_one HK1.out) | ((with_reducible refine (gplS S _ _ H1.out).mono ?_); rintro e w2 ⟨rfl, k2⟩; have HK2 := Lib.hid (HK1.out.on k2); have hbw := bTrans hbw k2; have hl2 := HK2.out.lt; obtain ⟨c0, c2, c3⟩ := st_h HK2.out)) | (go_at_call 32; first | ((with_reducible refine (gw _ _ _ _ _ H2.out).mono ?_); rintro e w3 ⟨rfl, rfl⟩) | ((with_reducible refine (gw _ _ _ _ _ H3.out).mono ?_); rintro e w3 ⟨rfl, rfl⟩) | ((with_reducible refine (gw _ _ _ _ _ H4.out).mono ?_); rintro e w3 ⟨rfl, rfl⟩)))
        go_ret
        exact ⟨ret_bool HFIN.out.symm, hbw⟩
      have H1 := Lib.hid h1
      rw [h1] at hfin
      clear h1
      cases h2 : inB (S 0) 0 1073741824
      · rw [h2] at hfin
        simp only [Bool.false_and, Bool.true_and] at hfin
        have H2 := Lib.hid h2
        have HFIN := Lib.hid hfin
        clear h2 hfin
        go_wp2_with (first | (refine wpList_load_mid rfl 27 (.tmp 15) rfl w.heap.size 4 rfl [.int .i32 (getP S 0 0), .int .i32 (getP S 0 1), .int .i32 (getP S 0 2), .int .i32 (getP S 0 3), .int .i64 (getP S 0 4), .int .i64 (getP S 0 5), .int .i64 (getP S 0 6), .int .i64 (getP S 0 7), .int .i64 (getP S 0 8), .int .i64 (getP S 0 9)] _ (st_pl0 HK.out) Tryz.underlying27 rfl (by kernel_rfl) ?_) | (go_at_call 31; first | ((with_reducible refine (gpl (getP S 0) _ _ H0.out).mono ?_); rintro e w1 ⟨rfl, k1⟩; have HK1 := Lib.hid (HK.out.on k1); have hbw := bTrans hb k1; have hl1 := HK1.out.lt; obtain ⟨d0, d1, d2, d3, d4, d5, d6, d7, d8, d9⟩ := st_one HK1.out) | ((with_reducible refine (gplS S _ _ H1.out).mono ?_); rintro e w2 ⟨rfl, k2⟩; have HK2 := Lib.hid (HK1.out.on k2); have hbw := bTrans hbw k2; have hl2 := HK2.out.lt; obtain ⟨c0, c2, c3⟩ := st_h HK2.out)) | (go_at_call 32; first | ((with_reducible refine (gw _ _ _ _ _ H2.out).mono ?_); rintro e w3 ⟨rfl, rfl⟩) | ((with_reducible refine (gw _ _ _ _ _ H3.out).mono ?_); rintro e w3 ⟨rfl, rfl⟩) | ((with_reducible refine (gw _ _ _ _ _ H4.out).mono ?_); rintro e w3 ⟨rfl, rfl⟩)))
        go_ret
        exact ⟨ret_bool HFIN.out.symm, hbw⟩
      have H2 := Lib.hid h2
      rw [h2] at hfin
      clear h2
      cases h3 : inB (S 2) 0 1073741824
      · rw [h3] at hfin
        simp only [Bool.false_and, Bool.true_and] at hfin
        have H3 := Lib.hid h3
        have HFIN := Lib.hid hfin
        clear h3 hfin
        go_wp2_with (first | (refine wpList_load_mid rfl 27 (.tmp 15) rfl w.heap.size 4 rfl [.int .i32 (getP S 0 0), .int .i32 (getP S 0 1), .int .i32 (getP S 0 2), .int .i32 (getP S 0 3), .int .i64 (getP S 0 4), .int .i64 (getP S 0 5), .int .i64 (getP S 0 6), .int .i64 (getP S 0 7), .int .i64 (getP S 0 8), .int .i64 (getP S 0 9)] _ (st_pl0 HK.out) Tryz.underlying27 rfl (by kernel_rfl) ?_) | (go_at_call 31; first | ((with_reducible refine (gpl (getP S 0) _ _ H0.out).mono ?_); rintro e w1 ⟨rfl, k1⟩; have HK1 := Lib.hid (HK.out.on k1); have hbw := bTrans hb k1; have hl1 := HK1.out.lt; obtain ⟨d0, d1, d2, d3, d4, d5, d6, d7, d8, d9⟩ := st_one HK1.out) | ((with_reducible refine (gplS S _ _ H1.out).mono ?_); rintro e w2 ⟨rfl, k2⟩; have HK2 := Lib.hid (HK1.out.on k2); have hbw := bTrans hbw k2; have hl2 := HK2.out.lt; obtain ⟨c0, c2, c3⟩ := st_h HK2.out)) | (go_at_call 32; first | ((with_reducible refine (gw _ _ _ _ _ H2.out).mono ?_); rintro e w3 ⟨rfl, rfl⟩) | ((with_reducible refine (gw _ _ _ _ _ H3.out).mono ?_); rintro e w3 ⟨rfl, rfl⟩) | ((with_reducible refine (gw _ _ _ _ _ H4.out).mono ?_); rintro e w3 ⟨rfl, rfl⟩)))
        go_ret
        exact ⟨ret_bool HFIN.out.symm, hbw⟩
      have H3 := Lib.hid h3
      rw [h3] at hfin
      clear h3
      obtain ⟨b, h4⟩ : ∃ b, inB (S 3) 1 600 = b := ⟨_, rfl⟩
      rw [h4] at hfin
      simp only [Bool.true_and] at hfin
      have H4 := Lib.hid h4
      have HFIN := Lib.hid hfin
      clear h4 hfin
      go_wp2_with (first | (refine wpList_load_mid rfl 27 (.tmp 15) rfl w.heap.size 4 rfl [.int .i32 (getP S 0 0), .int .i32 (getP S 0 1), .int .i32 (getP S 0 2), .int .i32 (getP S 0 3), .int .i64 (getP S 0 4), .int .i64 (getP S 0 5), .int .i64 (getP S 0 6), .int .i64 (getP S 0 7), .int .i64 (getP S 0 8), .int .i64 (getP S 0 9)] _ (st_pl0 HK.out) Tryz.underlying27 rfl (by kernel_rfl) ?_) | (go_at_call 31; first | ((with_reducible refine (gpl (getP S 0) _ _ H0.out).mono ?_); rintro e w1 ⟨rfl, k1⟩; have HK1 := Lib.hid (HK.out.on k1); have hbw := bTrans hb k1; have hl1 := HK1.out.lt; obtain ⟨d0, d1, d2, d3, d4, d5, d6, d7, d8, d9⟩ := st_one HK1.out) | ((with_reducible refine (gplS S _ _ H1.out).mono ?_); rintro e w2 ⟨rfl, k2⟩; have HK2 := Lib.hid (HK1.out.on k2); have hbw := bTrans hbw k2; have hl2 := HK2.out.lt; obtain ⟨c0, c2, c3⟩ := st_h HK2.out)) | (go_at_call 32; first | ((with_reducible refine (gw _ _ _ _ _ H2.out).mono ?_); rintro e w3 ⟨rfl, rfl⟩) | ((with_reducible refine (gw _ _ _ _ _ H3.out).mono ?_); rintro e w3 ⟨rfl, rfl⟩) | ((with_reducible refine (gw _ _ _ _ _ H4.out).mono ?_); rintro e w3 ⟨rfl, rfl⟩)))
      go_ret
      exact ⟨ret_bool HFIN.out.symm, hbw⟩
end Go.Proofs.YtnaclkaapicelaaGreat
