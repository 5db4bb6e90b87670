/-
  What a bot presses: the program's walk.
-/
import Derived.Test.YtnaclkaapicelaaGreatBot2
import Derived.Test.YtnaclkaapicelaaGreatGuard
import Derived.Outline
namespace Go.Proofs.YtnaclkaapicelaaGreat
open Go.RowKit
set_option maxRecDepth 100000
def pressV (S : Nat → Int) (i k : Nat) : Int := turnZ (dotZ S i) (crossZ S i) + ((if 1 ≤ k then driveZ S i else 0) + ((if 2 ≤ k then fireZ S i (dotZ S i) (crossZ S i) else 0) + (if 3 ≤ k then dashZ S i else 0)))
def downB (S : Nat → Int) (i : Nat) : Bool := decide (0 < S (4 + i * 10 + 8))
/-- What is pressed as far as part k. -/
def pressTo (S : Nat → Int) (i k : Nat) : Int :=
  (if 1 ≤ k then turnZ (dotZ S i) (crossZ S i) else 0) + (if 2 ≤ k then driveZ S i else 0) + (if 3 ≤ k then fireZ S i (dotZ S i) (crossZ S i) else 0) + (if 4 ≤ k then dashZ S i else 0)
theorem pressTo_0 (S : Nat → Int) (i : Nat) : pressTo S i 0 = 0 := by simp [pressTo]
theorem pressTo_1 (S : Nat → Int) (i : Nat) : pressTo S i 1 = turnZ (dotZ S i) (crossZ S i) := by simp [pressTo]
theorem pressTo_2 (S : Nat → Int) (i : Nat) : pressTo S i 2 = turnZ (dotZ S i) (crossZ S i) + driveZ S i := by simp [pressTo]
theorem pressTo_3 (S : Nat → Int) (i : Nat) : pressTo S i 3 = turnZ (dotZ S i) (crossZ S i) + driveZ S i + fireZ S i (dotZ S i) (crossZ S i) := by simp [pressTo]
theorem pressTo_4 (S : Nat → Int) (i : Nat) : pressTo S i 4 = turnZ (dotZ S i) (crossZ S i) + driveZ S i + fireZ S i (dotZ S i) (crossZ S i) + dashZ S i := by simp [pressTo]
theorem turnZ_val (d c : Int) : turnZ d c = 0 ∨ turnZ d c = 1 ∨ turnZ d c = 2 := by
  unfold turnZ
  split
  · exact .inl rfl
  · split
    · exact .inr (.inl rfl)
    · split
      · exact .inr (.inr rfl)
      · exact .inl rfl
theorem driveZ_val (S : Nat → Int) (i : Nat) : driveZ S i = 4 ∨ driveZ S i = 8 := by
  unfold driveZ
  split
  · exact .inl rfl
  · exact .inr rfl
theorem fireZ_val (S : Nat → Int) (i : Nat) (d c : Int) : fireZ S i d c = 0 ∨ fireZ S i d c = 16 := by
  unfold fireZ
  split
  · exact .inr rfl
  · exact .inl rfl
theorem dashZ_val (S : Nat → Int) (i : Nat) : dashZ S i = 0 ∨ dashZ S i = 32 := by
  unfold dashZ
  split
  · exact .inr rfl
  · exact .inl rfl
theorem or_0 (S : Nat → Int) (i : Nat) : bits .or .u8 (pressTo S i 0) (turnZ (dotZ S i) (crossZ S i)) = pressTo S i 1 := by
  rw [pressTo_0, pressTo_1]
  rcases turnZ_val (dotZ S i) (crossZ S i) with h | h | h <;> rw [h] <;> decide +kernel
theorem or_1 (S : Nat → Int) (i : Nat) : bits .or .u8 (pressTo S i 1) (driveZ S i) = pressTo S i 2 := by
  rw [pressTo_1, pressTo_2]
  rcases turnZ_val (dotZ S i) (crossZ S i) with h | h | h <;> rcases driveZ_val S i with h1 | h1 <;> rw [h, h1] <;> decide +kernel
theorem or_2 (S : Nat → Int) (i : Nat) : bits .or .u8 (pressTo S i 2) (fireZ S i (dotZ S i) (crossZ S i)) = pressTo S i 3 := by
  rw [pressTo_2, pressTo_3]
  rcases turnZ_val (dotZ S i) (crossZ S i) with h | h | h <;> rcases driveZ_val S i with h1 | h1 <;> rcases fireZ_val S i (dotZ S i) (crossZ S i) with h2 | h2 <;> rw [h, h1, h2] <;> decide +kernel
theorem or_3 (S : Nat → Int) (i : Nat) : bits .or .u8 (pressTo S i 3) (dashZ S i) = pressTo S i 4 := by
  rw [pressTo_3, pressTo_4]
  rcases turnZ_val (dotZ S i) (crossZ S i) with h | h | h <;> rcases driveZ_val S i with h1 | h1 <;> rcases fireZ_val S i (dotZ S i) (crossZ S i) with h2 | h2 <;> rcases dashZ_val S i with h3 | h3 <;> rw [h, h1, h2, h3] <;> decide +kernel
set_option maxHeartbeats 4000000 in
theorem pressTo_bd (S : Nat → Int) (i k : Nat) : 0 ≤ pressTo S i k ∧ pressTo S i k ≤ 63 := by
  have h := turnZ_val (dotZ S i) (crossZ S i)
  have h1 := driveZ_val S i
  have h2 := fireZ_val S i (dotZ S i) (crossZ S i)
  have h3 := dashZ_val S i
  unfold pressTo
  split <;> split <;> split <;> split <;> omega
theorem bw (n lo hi : Int) (w : World) (b : Bool) (h : inB n lo hi = b) : Calls Tryz.prog 47 #[.int .i64 n, .int .i64 lo, .int .i64 hi] w fun e w' => e = .returned (.bool b) ∧ w = w' :=
  (bwithin_any n lo hi w).mono fun _ _ ⟨h1, h2⟩ => ⟨by rw [h1, h], h2⟩
def pressZ (S : Nat → Int) (who skill : Int) : Int :=
  if inB who 0 1 && (inB skill 0 3 && (rightS S && !(downB S who.toNat))) then pressTo S who.toNat (skill.toNat + 1) else 0
section
variable (S : Nat → Int) (who skill : Int) (w : World)
set_option maxHeartbeats 4000000 in
/-- Nobody presses. -/
theorem press_no (h : (inB who 0 1 && (inB skill 0 3 && rightS S)) = false) : Calls Tryz.prog 46 #[.agg (stCells S).toArray, .int .i64 who, .int .i64 skill] w fun e w' => e = .returned (.int .u8 0) ∧ Below w.heap.size w w' := by
  have HK := Lib.hid (show Blk (w.alloc (.cells (stCells S).toArray 33)) w.heap.size 33 (stCells S).toArray from Blk.new _ _ _)
  have hb : Below w.heap.size w (w.alloc (.cells (stCells S).toArray 33)) := bAlloc (Below.refl _ _) _
  have HR := Lib.hid (fun W => gRight_any S W)
  cases h0 : inB who 0 1
  · have H0 := Lib.hid h0
    clear h0 h
    go_enter Tryz.func46, Tryz.ntmps46
    go_wp2_with (first | (go_at_call 47; refine (bw _ _ _ _ _ H0.out).mono ?_; rintro e w1 ⟨rfl, rfl⟩))
    go_ret
    exact ⟨rfl, hb⟩
  · cases h1 : inB skill 0 3
    · have H0 := Lib.hid h0
      have H1 := Lib.hid h1
      clear h0 h1 h
      go_enter Tryz.func46, Tryz.ntmps46
      go_wp2_with (first | (go_at_call 47; first | ((with_reducible refine (bw who 0 1 _ _ H0.out).mono ?_); rintro e w1 ⟨rfl, rfl⟩) | ((with_reducible refine (bw skill 0 3 _ _ H1.out).mono ?_); rintro e w1 ⟨rfl, rfl⟩)))
      go_ret
      exact ⟨rfl, hb⟩
    · have hr : rightS S = false := by simpa [h0, h1] using h
      have H0 := Lib.hid h0
      have H1 := Lib.hid h1
      rw [hr] at HR
      clear h0 h1 h hr
      go_enter Tryz.func46, Tryz.ntmps46
      go_wp2_with (first | (refine wpList_load_midG rfl 33 (.tmp 3) rfl w.heap.size 0 rfl (stCells S) _ (Blk.range HK.out) Tryz.underlying33 rfl (by kernel_rfl) ?_) | (go_at_call 9; refine (HR.out _).mono ?_; rintro e w2 ⟨rfl, k2⟩) | (go_at_call 47; first | ((with_reducible refine (bw who 0 1 _ _ H0.out).mono ?_); rintro e w1 ⟨rfl, rfl⟩) | ((with_reducible refine (bw skill 0 3 _ _ H1.out).mono ?_); rintro e w1 ⟨rfl, rfl⟩)))
      go_ret
      exact ⟨rfl, bTrans hb k2⟩
end
section
variable (S : Nat → Int) (i : Nat) (w : World)
theorem sight_any (hi : i < 2) (hf : FitS S) : Calls Tryz.prog 45 #[.agg (stCells S).toArray, .int .i64 i] w fun e w' => e = .returned (.tuple #[.int .i32 (dotZ S i), .int .i32 (crossZ S i)]) ∧ Below w.heap.size w w' := by
  have : i = 0 ∨ i = 1 := by omega
  rcases this with rfl | rfl
  · exact sight_0 S hf w
  · exact sight_1 S hf w
theorem right_yes (h : rightS S = true) : Calls Tryz.prog 9 #[.agg (stCells S).toArray] w fun e w' => e = .returned (.bool true) ∧ Below w.heap.size w w' := by
  have := gRight_any S w
  rwa [h] at this
theorem st_down {w : World} {g : Nat} (h : Blk w g 33 (stCells S).toArray) (hi : i < 2) : w.cell? ⟨g, 4 + i * 10 + 8, none⟩ = some (.int .i64 (S (4 + i * 10 + 8))) := by
  rw [st_cell h _ (by omega), kdS_p i 8 hi (by decide)]; rfl
set_option maxHeartbeats 4000000 in
/-- One that is down presses nothing. -/
theorem press_down (k : Nat) (hi : i < 2) (hk : k ≤ 3) (hr : rightS S = true) (hd : 0 < S (4 + i * 10 + 8)) : Calls Tryz.prog 46 #[.agg (stCells S).toArray, .int .i64 i, .int .i64 k] w fun e w' => e = .returned (.int .u8 0) ∧ Below w.heap.size w w' := by
  have HK := Lib.hid (show Blk (w.alloc (.cells (stCells S).toArray 33)) w.heap.size 33 (stCells S).toArray from Blk.new _ _ _)
  have hb : Below w.heap.size w (w.alloc (.cells (stCells S).toArray 33)) := bAlloc (Below.refl _ _) _
  have HR := Lib.hid (fun W => right_yes S W hr)
  have H0 := Lib.hid (show inB i 0 1 = true from inB_ok ⟨by omega, by omega⟩)
  have H1 := Lib.hid (show inB k 0 3 = true from inB_ok ⟨by omega, by omega⟩)
  obtain ⟨q, hq⟩ : ∃ q, S (4 + i * 10 + 8) = q := ⟨_, rfl⟩
  rw [hq] at hd
  have HD := Lib.hid hq
  have hi2 : (i : Int) < 2 := by omega
  clear hr hq
  go_enter Tryz.func46, Tryz.ntmps46
  go_wp2_with (first | (refine wpList_load_midG rfl 33 (.tmp 3) rfl w.heap.size 0 rfl (stCells S) _ (Blk.range HK.out) Tryz.underlying33 rfl (by kernel_rfl) ?_) | (go_at_call 9; refine (HR.out _).mono ?_; rintro e w2 ⟨rfl, k2⟩; have HK2 := Lib.hid (HK.out.on k2); have c8 := st_down S i HK2.out hi; rw [HD.out] at c8; have hl2 := HK2.out.lt) | (go_at_call 47; first | ((with_reducible refine (bw i 0 1 _ _ H0.out).mono ?_); rintro e w1 ⟨rfl, rfl⟩) | ((with_reducible refine (bw k 0 3 _ _ H1.out).mono ?_); rintro e w1 ⟨rfl, rfl⟩)))
  go_ret
  exact ⟨rfl, bTrans hb k2⟩
end
end Go.Proofs.YtnaclkaapicelaaGreat
