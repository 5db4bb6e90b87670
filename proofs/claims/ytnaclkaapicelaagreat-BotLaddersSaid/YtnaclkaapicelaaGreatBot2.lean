/-
  What a bot does: the program's walk of its parts.
-/
import Derived.Test.YtnaclkaapicelaaGreatBot1
namespace Go.Proofs.YtnaclkaapicelaaGreat
open Go.RowKit
set_option maxRecDepth 100000
def vwCells (S : Nat → Int) (i : Nat) (d c : Int) : List Value := stCells S ++ (plCells (getP S i) ++ [.int .i64 i, .int .i32 d, .int .i32 c])
def VwBlk (w : World) (g : Nat) (S : Nat → Int) (i : Nat) (d c : Int) : Prop := Blk w g 136 (vwCells S i d c).toArray
section
variable {w w' : World} {g : Nat} {S : Nat → Int} {i : Nat} {d c : Int}
theorem VwBlk.st (h : VwBlk w g S i d c) (j : Nat) (hj : j < 60) : w.cell? ⟨g, j, none⟩ = some (.int (kdS j) (S j)) := by
  rw [Blk.cell h j, List.getElem?_toArray, vwCells, List.getElem?_append_left (by rw [stCells_length]; exact hj)]
  simp [stCells, rowOf, hj]
theorem VwBlk.rest (h : VwBlk w g S i d c) (j : Nat) : w.cell? ⟨g, 60 + j, none⟩ = (plCells (getP S i) ++ [.int .i64 i, .int .i32 d, .int .i32 c])[j]? := by
  rw [Blk.cell h (60 + j), List.getElem?_toArray, vwCells, List.getElem?_append_right (by rw [stCells_length]; omega), stCells_length]
  congr 1; omega
theorem VwBlk.cool (h : VwBlk w g S i d c) : w.cell? ⟨g, 66, none⟩ = some (.int .i64 (getP S i 6)) := h.rest 6
theorem VwBlk.wind (h : VwBlk w g S i d c) : w.cell? ⟨g, 67, none⟩ = some (.int .i64 (getP S i 7)) := h.rest 7
theorem VwBlk.who (h : VwBlk w g S i d c) : w.cell? ⟨g, 70, none⟩ = some (.int .i64 i) := h.rest 10
theorem VwBlk.dot (h : VwBlk w g S i d c) : w.cell? ⟨g, 71, none⟩ = some (.int .i32 d) := h.rest 11
theorem VwBlk.cross (h : VwBlk w g S i d c) : w.cell? ⟨g, 72, none⟩ = some (.int .i32 c) := h.rest 12
theorem VwBlk.range (h : VwBlk w g S i d c) : w.rangeAt g 0 (stCells S) := fun j v hv => by
  have hj : j < 60 := by have := (List.getElem?_eq_some_iff.1 hv).1; rwa [stCells_length] at this
  rw [Nat.zero_add, h.st j hj, ← hv]
  simp [stCells, rowOf, hj]
end
def aimsB (d c : Int) : Bool := decide (0 < d) && decide (max c (sat (-c)) ≤ d / 16)
def turnZ (d c : Int) : Int := if aimsB d c then 0 else if c < 0 then 1 else if 0 < c ∨ d ≤ 0 then 2 else 0
def driveZ (S : Nat → Int) (i : Nat) : Int := if 1310720 < norm (dxZ S i) (dyZ S i) then 4 else 8
def fireZ (S : Nat → Int) (i : Nat) (d c : Int) : Int := if aimsB d c && decide (getP S i 6 ≤ 1) then 16 else 0
def dashZ (S : Nat → Int) (i : Nat) : Int := if decide (getP S i 7 ≤ 1) && (throwZ (seedZ (S 1) (S 0)) 8 == i) then 32 else 0
section
variable (S : Nat → Int) (i : Nat) (d c : Int) (w : World)
set_option maxHeartbeats 2000000 in
theorem aims_any (hd : F32 d) (hc : F32 c) : Calls Tryz.prog 124 #[.agg (vwCells S i d c).toArray] w fun e w' => e = .returned (.bool (aimsB d c)) ∧ Below w.heap.size w w' := by
  have HC := Lib.hid hc
  obtain ⟨d1, d2⟩ := hd
  by_cases h0 : 0 < d
  · have HE := Lib.hid (show aimsB d c = decide (max c (sat (-c)) ≤ d / 16) by unfold aimsB; rw [decide_eq_true h0]; rfl)
    clear hc
    obtain ⟨m, hm⟩ : ∃ m, max c (sat (-c)) = m := ⟨_, rfl⟩
    rw [hm] at HE
    have HA := Lib.hid (fun W => fAbs_any HC.out W)
    rw [hm] at HA
    clear hm
    go_enter Tryz.func124, Tryz.ntmps124
    go_wp2_with fail
    obtain ⟨W, hW⟩ : ∃ W, W = w.alloc (.cells (vwCells S i d c).toArray 136) := ⟨_, rfl⟩
    have hk : VwBlk W w.heap.size S i d c := by rw [hW]; exact Blk.new _ _ _
    have hb : Below w.heap.size w W := by rw [hW]; exact bAlloc (Below.refl _ _) _
    have hl := Blk.lt hk
    have HK := Lib.hid hk
    have c66 := hk.cool
    have c67 := hk.wind
    have c70 := hk.who
    have c71 := hk.dot
    have c72 := hk.cross
    rw [← hW]
    clear hW hk
    refine wp_region_mild (by kernel_rfl) (by kernel_rfl) ?_
    repeat (go_big_quiet_step ((go_at_call 141; exact mild_same (HA.out _))))
    refine wpQuiet_nil ?_
    intro w1 hw'
    obtain ⟨⟨wq, k1⟩, hw''⟩ := hw'
    subst hw''
    go_wp2
    go_ret
    exact ⟨ret_bool HE.out.symm, bTrans hb k1⟩
  · have HE := Lib.hid (show aimsB d c = false by unfold aimsB; rw [decide_eq_false h0]; rfl)
    have hd0 : decide (0 < d) = false := decide_eq_false h0
    clear hc
    go_enter Tryz.func124, Tryz.ntmps124
    go_wp2_with fail
    obtain ⟨W, hW⟩ : ∃ W, W = w.alloc (.cells (vwCells S i d c).toArray 136) := ⟨_, rfl⟩
    have hk : VwBlk W w.heap.size S i d c := by rw [hW]; exact Blk.new _ _ _
    have hb : Below w.heap.size w W := by rw [hW]; exact bAlloc (Below.refl _ _) _
    have hl := Blk.lt hk
    have HK := Lib.hid hk
    have c66 := hk.cool
    have c67 := hk.wind
    have c70 := hk.who
    have c71 := hk.dot
    have c72 := hk.cross
    rw [← hW]
    clear hW hk
    refine wp_region_mild (by kernel_rfl) (by kernel_rfl) ?_
    repeat (go_big_quiet_step ((fail)))
    refine wpQuiet_nil ?_
    intro w1 hw'
    obtain ⟨⟨wq, k1⟩, hw''⟩ := hw'
    subst hw''
    go_wp2
    go_ret
    exact ⟨ret_bool HE.out.symm, bTrans hb k1⟩
set_option maxHeartbeats 2000000 in
theorem turn_any (hd : F32 d) (hc : F32 c) : Calls Tryz.prog 93 #[.agg (vwCells S i d c).toArray] w fun e w' => e = .returned (.int .u8 (turnZ d c)) ∧ Below w.heap.size w w' := by
  have HA := Lib.hid (fun W => aims_any S i d c W hd hc)
  clear hd hc
  obtain ⟨b, hb'⟩ : ∃ b, aimsB d c = b := ⟨_, rfl⟩
  have HT := Lib.hid (show turnZ d c = if b then 0 else if c < 0 then 1 else if 0 < c ∨ d ≤ 0 then 2 else 0 by unfold turnZ; rw [hb'])
  rw [hb'] at HA
  clear hb'
  have HK := Lib.hid (show VwBlk (w.alloc (.cells (vwCells S i d c).toArray 136)) w.heap.size S i d c from Blk.new _ _ _)
  have hb : Below w.heap.size w (w.alloc (.cells (vwCells S i d c).toArray 136)) := bAlloc (Below.refl _ _) _
  go_enter Tryz.func93, Tryz.ntmps93
  go_wp2_with (first | (refine wpList_load_row rfl 136 (.tmp 1) rfl w.heap.size rfl 136 (vwCells S i d c).toArray (0, 0) _ HK.out Tryz.underlying136 rfl (by kernel_rfl) ?_))
  obtain ⟨W, hW⟩ : ∃ W, W = w.alloc (.cells (vwCells S i d c).toArray 136) := ⟨_, rfl⟩
  try rw [← hW]
  try rw [← hW] at HK hb
  clear hW
  refine (HA.out _).mono ?_
  rintro e w1 ⟨rfl, k1⟩
  have HK1 := Lib.hid (Blk.on HK.out k1)
  have e71 : w1.cell? ⟨w.heap.size, 71, none⟩ = some (.int .i32 d) := VwBlk.dot HK1.out
  have e72 : w1.cell? ⟨w.heap.size, 72, none⟩ = some (.int .i32 c) := VwBlk.cross HK1.out
  have HB := Lib.hid (bTrans hb k1)
  clear k1 hb
  cases b
  · by_cases h1 : c < 0
    · have HF := Lib.hid (show turnZ d c = 1 by rw [HT.out, if_neg (by decide), if_pos h1])
      go_wp2
      go_ret
      exact ⟨ret_int HF.out.symm, HB.out⟩
    · by_cases h2 : 0 < c
      · have HF := Lib.hid (show turnZ d c = 2 by rw [HT.out, if_neg (by decide), if_neg h1, if_pos (.inl h2)])
        go_wp2
        go_ret
        exact ⟨ret_int HF.out.symm, HB.out⟩
      · by_cases h3 : d ≤ 0
        · have HF := Lib.hid (show turnZ d c = 2 by rw [HT.out, if_neg (by decide), if_neg h1, if_pos (.inr h3)])
          go_wp2
          go_ret
          exact ⟨ret_int HF.out.symm, HB.out⟩
        · have HF := Lib.hid (show turnZ d c = 0 by rw [HT.out, if_neg (by decide), if_neg h1, if_neg (by omega)])
          go_wp2
          go_ret
          exact ⟨ret_int HF.out.symm, HB.out⟩
  · have HF := Lib.hid (show turnZ d c = 0 by rw [HT.out, if_pos rfl])
    go_wp2
    go_ret
    exact ⟨ret_int HF.out.symm, HB.out⟩
set_option maxHeartbeats 2000000 in
theorem fire_any (hd : F32 d) (hc : F32 c) : Calls Tryz.prog 95 #[.agg (vwCells S i d c).toArray] w fun e w' => e = .returned (.int .u8 (fireZ S i d c)) ∧ Below w.heap.size w w' := by
  have HA := Lib.hid (fun W => aims_any S i d c W hd hc)
  clear hd hc
  obtain ⟨b, hb'⟩ : ∃ b, aimsB d c = b := ⟨_, rfl⟩
  obtain ⟨q, hq⟩ : ∃ q, getP S i 6 = q := ⟨_, rfl⟩
  have HT := Lib.hid (show fireZ S i d c = if b && decide (q ≤ 1) then 16 else 0 by unfold fireZ; rw [hb', hq])
  rw [hb'] at HA
  have HQ := Lib.hid hq
  clear hb' hq
  have HK := Lib.hid (show VwBlk (w.alloc (.cells (vwCells S i d c).toArray 136)) w.heap.size S i d c from Blk.new _ _ _)
  have hb : Below w.heap.size w (w.alloc (.cells (vwCells S i d c).toArray 136)) := bAlloc (Below.refl _ _) _
  go_enter Tryz.func95, Tryz.ntmps95
  go_wp2_with (first | (refine wpList_load_row rfl 136 (.tmp 1) rfl w.heap.size rfl 136 (vwCells S i d c).toArray (0, 0) _ HK.out Tryz.underlying136 rfl (by kernel_rfl) ?_))
  obtain ⟨W, hW⟩ : ∃ W, W = w.alloc (.cells (vwCells S i d c).toArray 136) := ⟨_, rfl⟩
  try rw [← hW]
  try rw [← hW] at HK hb
  clear hW
  refine (HA.out _).mono ?_
  rintro e w1 ⟨rfl, k1⟩
  have HK1 := Lib.hid (Blk.on HK.out k1)
  have e66 : w1.cell? ⟨w.heap.size, 66, none⟩ = some (.int .i64 (getP S i 6)) := VwBlk.cool HK1.out
  rw [HQ.out] at e66
  have HB := Lib.hid (bTrans hb k1)
  clear k1 hb
  cases b
  · have HF := Lib.hid (show fireZ S i d c = 0 by rw [HT.out]; rfl)
    go_wp2
    go_ret
    exact ⟨ret_int HF.out.symm, HB.out⟩
  · by_cases h1 : q ≤ 1
    · have HF := Lib.hid (show fireZ S i d c = 16 by rw [HT.out, decide_eq_true h1]; rfl)
      go_wp2
      go_ret
      exact ⟨ret_int HF.out.symm, HB.out⟩
    · have HF := Lib.hid (show fireZ S i d c = 0 by rw [HT.out, decide_eq_false h1]; rfl)
      go_wp2
      go_ret
      exact ⟨ret_int HF.out.symm, HB.out⟩
set_option maxHeartbeats 2000000 in
theorem drive_any (hi : i < 2) (hf : FitS S) : Calls Tryz.prog 94 #[.agg (vwCells S i d c).toArray] w fun e w' => e = .returned (.int .u8 (driveZ S i)) ∧ Below w.heap.size w w' := by
  have HWY : Hid (∀ W, Calls Tryz.prog 87 #[.agg (stCells S).toArray, .int .i64 i] W fun e w' => e = .returned (.agg #[.int .i32 (dxZ S i), .int .i32 (dyZ S i)]) ∧ Below W.heap.size W w') := by
    have : i = 0 ∨ i = 1 := by omega
    rcases this with rfl | rfl
    · exact fun W => way_0 S hf W
    · exact fun W => way_1 S hf W
  have HL := Lib.hid (fun W => tLength_any (x := dxZ S i) (y := dyZ S i) (sat_bd _) (sat_bd _) W)
  clear hf
  obtain ⟨q, hq⟩ : ∃ q, norm (dxZ S i) (dyZ S i) = q := ⟨_, rfl⟩
  have HT := Lib.hid (show driveZ S i = if 1310720 < q then 4 else 8 by unfold driveZ; rw [hq])
  rw [hq] at HL
  clear hq
  have HK := Lib.hid (show VwBlk (w.alloc (.cells (vwCells S i d c).toArray 136)) w.heap.size S i d c from Blk.new _ _ _)
  have hb : Below w.heap.size w (w.alloc (.cells (vwCells S i d c).toArray 136)) := bAlloc (Below.refl _ _) _
  have c70 : (w.alloc (.cells (vwCells S i d c).toArray 136)).cell? ⟨w.heap.size, 70, none⟩ = some (.int .i64 i) := HK.out.who
  go_enter Tryz.func94, Tryz.ntmps94
  go_wp2_with (first | (refine wpList_load_mid rfl 33 (.tmp 4) rfl w.heap.size 0 rfl (stCells S) _ HK.out.range Tryz.underlying33 rfl (by kernel_rfl) ?_))
  obtain ⟨W, hW⟩ : ∃ W, W = w.alloc (.cells (vwCells S i d c).toArray 136) := ⟨_, rfl⟩
  try rw [← hW]
  try rw [← hW] at HK hb
  clear hW
  refine (HWY.out _).mono ?_
  rintro e w1 ⟨rfl, k1⟩
  have HB := Lib.hid (bTrans hb k1)
  clear k1 hb
  go_wp2_with fail
  refine (HL.out _).mono ?_
  rintro e w2 ⟨rfl, rfl⟩
  by_cases h1 : 1310720 < q
  · have HF := Lib.hid (show driveZ S i = 4 by rw [HT.out, if_pos h1])
    go_wp2
    go_ret
    exact ⟨ret_int HF.out.symm, bAlloc HB.out _⟩
  · have HF := Lib.hid (show driveZ S i = 8 by rw [HT.out, if_neg h1])
    go_wp2
    go_ret
    exact ⟨ret_int HF.out.symm, bAlloc HB.out _⟩
set_option maxHeartbeats 2000000 in
theorem dash_any (hf : FitS S) (h0 : 0 ≤ S 0 ∧ S 0 ≤ 1073741824) : Calls Tryz.prog 96 #[.agg (vwCells S i d c).toArray] w fun e w' => e = .returned (.int .u8 (dashZ S i)) ∧ Below w.heap.size w w' := by
  have u1 := hf.u32
  have HSD := Lib.hid (fun W => dSeed_any (S 1) (S 0) W u1 ⟨h0.1, by omega⟩)
  have HTH := Lib.hid (fun W => dThrow_any (seedZ (S 1) (S 0)) 8 W (seedZ_bd _ _) (by decide) (by decide))
  obtain ⟨n, hn⟩ : ∃ n, throwZ (seedZ (S 1) (S 0)) 8 = n := ⟨_, rfl⟩
  obtain ⟨q, hq⟩ : ∃ q, getP S i 7 = q := ⟨_, rfl⟩
  have HT := Lib.hid (show dashZ S i = if decide (q ≤ 1) && (n == i) then 32 else 0 by unfold dashZ; rw [hn, hq])
  rw [hn] at HTH
  have HQ := Lib.hid hq
  clear hn hq hf u1
  obtain ⟨ha, hb0⟩ := h0
  have HK := Lib.hid (show VwBlk (w.alloc (.cells (vwCells S i d c).toArray 136)) w.heap.size S i d c from Blk.new _ _ _)
  have hb : Below w.heap.size w (w.alloc (.cells (vwCells S i d c).toArray 136)) := bAlloc (Below.refl _ _) _
  have c0 : (w.alloc (.cells (vwCells S i d c).toArray 136)).cell? ⟨w.heap.size, 0, none⟩ = some (.int .i64 (S 0)) := HK.out.st 0 (by decide)
  have c1 : (w.alloc (.cells (vwCells S i d c).toArray 136)).cell? ⟨w.heap.size, 1, none⟩ = some (.int .u32 (S 1)) := HK.out.st 1 (by decide)
  go_enter Tryz.func96, Tryz.ntmps96
  go_wp2_with fail
  obtain ⟨W, hW⟩ : ∃ W, W = w.alloc (.cells (vwCells S i d c).toArray 136) := ⟨_, rfl⟩
  try rw [← hW]
  try rw [← hW] at HK hb
  clear hW
  refine (HSD.out _).mono ?_
  rintro e w1 ⟨rfl, k1⟩
  go_wp2_with fail
  refine (HTH.out _).mono ?_
  rintro e w2 ⟨rfl, k2⟩
  have HK2 := Lib.hid (Blk.on (Blk.on HK.out k1) k2)
  have e67 : w2.cell? ⟨w.heap.size, 67, none⟩ = some (.int .i64 (getP S i 7)) := VwBlk.wind HK2.out
  have e70 : w2.cell? ⟨w.heap.size, 70, none⟩ = some (.int .i64 i) := VwBlk.who HK2.out
  rw [HQ.out] at e67
  have HB := Lib.hid (bTrans (bTrans hb k1) k2)
  clear k1 k2 hb c0 c1
  by_cases h1 : q ≤ 1
  · cases h2 : (n == (i : Int))
    · have HF := Lib.hid (show dashZ S i = 0 by rw [HT.out, h2, Bool.and_false]; rfl)
      go_wp2
      go_ret
      exact ⟨ret_int HF.out.symm, HB.out⟩
    · have HF := Lib.hid (show dashZ S i = 32 by rw [HT.out, h2, decide_eq_true h1]; rfl)
      go_wp2
      go_ret
      exact ⟨ret_int HF.out.symm, HB.out⟩
  · have HF := Lib.hid (show dashZ S i = 0 by rw [HT.out, decide_eq_false h1]; rfl)
    go_wp2
    go_ret
    exact ⟨ret_int HF.out.symm, HB.out⟩
end
end Go.Proofs.YtnaclkaapicelaaGreat
