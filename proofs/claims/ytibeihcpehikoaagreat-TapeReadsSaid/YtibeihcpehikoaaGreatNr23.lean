/-
  May a player, a shot, a state be? The program's answer.
-/
import Derived.BigQuiet
import Derived.Test.YtibeihcpehikoaaGreatNr16
import Derived.Test.YtibeihcpehikoaaGreatNr22
namespace Go.Proofs.YtibeihcpehikoaaGreat
section
open Go.RowKit
set_option maxRecDepth 100000
def playerB (p : Nat → Int) : Bool := inB (p 4) 0 65535 && (inB (p 5) 0 3 && (inB (p 6) 0 8 && (inB (p 7) 0 20 && (inB (p 8) 0 30 && (inB (p 9) 0 2 && (insideB (-3932160) (-3932160) 3932160 3932160 (p 0) (p 1) && (decide (0 < p 5) == (p 8 == 0))))))))
theorem gw (n lo hi : Int) (w : World) (b : Bool) (h : inB n lo hi = b) : Calls Tryz.prog 185 #[.int .i64 n, .int .i64 lo, .int .i64 hi] w fun e w' => e = .returned (.bool b) ∧ w = w' :=
  (gwithin_any n lo hi w).mono fun _ _ ⟨h1, h2⟩ => ⟨by rw [h1, h], h2⟩
theorem gins (lx ly hx hy x y : Int) (w : World) (b : Bool) (h : insideB lx ly hx hy x y = b) : Calls Tryz.prog 195 #[.agg #[.int .i32 lx, .int .i32 ly, .int .i32 hx, .int .i32 hy], .agg #[.int .i32 x, .int .i32 y]] w fun e w' => e = .returned (.bool b) ∧ Below w.heap.size w w' :=
  (sInside_any lx ly hx hy x y w).mono fun _ _ ⟨h1, h2⟩ => ⟨by rw [h1, h], h2⟩
section
variable (p : Nat → Int) (w : World)
set_option maxHeartbeats 4000000 in
theorem gplayer_any : Calls Tryz.prog 184 #[.agg #[.int .i32 (p 0), .int .i32 (p 1), .int .i32 (p 2), .int .i32 (p 3), .int .i64 (p 4), .int .i64 (p 5), .int .i64 (p 6), .int .i64 (p 7), .int .i64 (p 8), .int .i64 (p 9)]] w fun e w' => e = .returned (.bool (playerB p)) ∧ Below w.heap.size w w' := by
  unfold playerB
  cases h4 : inB (p 4) 0 65535
  ·
    have H4 := Lib.hid h4
    clear h4
    simp only [Bool.false_and]
    go_enter Tryz.func184, Tryz.ntmps184
    go_wp2_with fail
    obtain ⟨W, hW⟩ : ∃ W, W = w.alloc (.cells #[.int .i32 (p 0), .int .i32 (p 1), .int .i32 (p 2), .int .i32 (p 3), .int .i64 (p 4), .int .i64 (p 5), .int .i64 (p 6), .int .i64 (p 7), .int .i64 (p 8), .int .i64 (p 9)] 35) := ⟨_, rfl⟩
    rw [← hW]
    have hk : Blk W w.heap.size 35 #[.int .i32 (p 0), .int .i32 (p 1), .int .i32 (p 2), .int .i32 (p 3), .int .i64 (p 4), .int .i64 (p 5), .int .i64 (p 6), .int .i64 (p 7), .int .i64 (p 8), .int .i64 (p 9)] := by rw [hW]; exact Blk.new _ _ _
    have hb : Below w.heap.size w W := by rw [hW]; exact bAlloc (Below.refl _ _) _
    have hl := hk.lt
    have c0 := hk.cell 0
    have c1 := hk.cell 1
    have c4 := hk.cell 4
    have c5 := hk.cell 5
    have c6 := hk.cell 6
    have c7 := hk.cell 7
    have c8 := hk.cell 8
    have c9 := hk.cell 9
    simp only [List.getElem?_toArray, List.getElem?_cons_zero, List.getElem?_cons_succ] at c0 c1 c4 c5 c6 c7 c8 c9
    clear hW hk
    refine wp_region_mild (by kernel_rfl) (by kernel_rfl) ?_
    repeat (go_big_quiet_step ((first | (go_at_call 185; first | (with_reducible exact mild_same (gw _ _ _ _ _ H4.out)) | (with_reducible exact mild_same (gw _ _ _ _ _ H5.out)) | (with_reducible exact mild_same (gw _ _ _ _ _ H6.out)) | (with_reducible exact mild_same (gw _ _ _ _ _ H7.out)) | (with_reducible exact mild_same (gw _ _ _ _ _ H8.out)) | (with_reducible exact mild_same (gw _ _ _ _ _ H9.out))) | (go_at_call 237; exact mild_of (gyard_any _)) | (go_at_call 195; exact mild_of (gins _ _ _ _ _ _ _ _ HI.out)))))
    refine wpQuiet_nil ?_
    intro w1 hw'
    obtain ⟨⟨wq, k1⟩, hw''⟩ := hw'
    subst hw''
    go_wp2
    go_ret
    exact ⟨rfl, bTrans hb k1⟩
  have H4 := Lib.hid h4
  clear h4
  cases h5 : inB (p 5) 0 3
  ·
    have H5 := Lib.hid h5
    clear h5
    simp only [Bool.false_and, Bool.true_and]
    go_enter Tryz.func184, Tryz.ntmps184
    go_wp2_with fail
    obtain ⟨W, hW⟩ : ∃ W, W = w.alloc (.cells #[.int .i32 (p 0), .int .i32 (p 1), .int .i32 (p 2), .int .i32 (p 3), .int .i64 (p 4), .int .i64 (p 5), .int .i64 (p 6), .int .i64 (p 7), .int .i64 (p 8), .int .i64 (p 9)] 35) := ⟨_, rfl⟩
    rw [← hW]
    have hk : Blk W w.heap.size 35 #[.int .i32 (p 0), .int .i32 (p 1), .int .i32 (p 2), .int .i32 (p 3), .int .i64 (p 4), .int .i64 (p 5), .int .i64 (p 6), .int .i64 (p 7), .int .i64 (p 8), .int .i64 (p 9)] := by rw [hW]; exact Blk.new _ _ _
    have hb : Below w.heap.size w W := by rw [hW]; exact bAlloc (Below.refl _ _) _
    have hl := hk.lt
    have c0 := hk.cell 0
    have c1 := hk.cell 1
    have c4 := hk.cell 4
    have c5 := hk.cell 5
    have c6 := hk.cell 6
    have c7 := hk.cell 7
    have c8 := hk.cell 8
    have c9 := hk.cell 9
    simp only [List.getElem?_toArray, List.getElem?_cons_zero, List.getElem?_cons_succ] at c0 c1 c4 c5 c6 c7 c8 c9
    clear hW hk
    refine wp_region_mild (by kernel_rfl) (by kernel_rfl) ?_
    repeat (go_big_quiet_step ((first | (go_at_call 185; first | (with_reducible exact mild_same (gw _ _ _ _ _ H4.out)) | (with_reducible exact mild_same (gw _ _ _ _ _ H5.out)) | (with_reducible exact mild_same (gw _ _ _ _ _ H6.out)) | (with_reducible exact mild_same (gw _ _ _ _ _ H7.out)) | (with_reducible exact mild_same (gw _ _ _ _ _ H8.out)) | (with_reducible exact mild_same (gw _ _ _ _ _ H9.out))) | (go_at_call 237; exact mild_of (gyard_any _)) | (go_at_call 195; exact mild_of (gins _ _ _ _ _ _ _ _ HI.out)))))
    refine wpQuiet_nil ?_
    intro w1 hw'
    obtain ⟨⟨wq, k1⟩, hw''⟩ := hw'
    subst hw''
    go_wp2
    go_ret
    exact ⟨rfl, bTrans hb k1⟩
  have H5 := Lib.hid h5
  clear h5
  cases h6 : inB (p 6) 0 8
  ·
    have H6 := Lib.hid h6
    clear h6
    simp only [Bool.false_and, Bool.true_and]
    go_enter Tryz.func184, Tryz.ntmps184
    go_wp2_with fail
    obtain ⟨W, hW⟩ : ∃ W, W = w.alloc (.cells #[.int .i32 (p 0), .int .i32 (p 1), .int .i32 (p 2), .int .i32 (p 3), .int .i64 (p 4), .int .i64 (p 5), .int .i64 (p 6), .int .i64 (p 7), .int .i64 (p 8), .int .i64 (p 9)] 35) := ⟨_, rfl⟩
    rw [← hW]
    have hk : Blk W w.heap.size 35 #[.int .i32 (p 0), .int .i32 (p 1), .int .i32 (p 2), .int .i32 (p 3), .int .i64 (p 4), .int .i64 (p 5), .int .i64 (p 6), .int .i64 (p 7), .int .i64 (p 8), .int .i64 (p 9)] := by rw [hW]; exact Blk.new _ _ _
    have hb : Below w.heap.size w W := by rw [hW]; exact bAlloc (Below.refl _ _) _
    have hl := hk.lt
    have c0 := hk.cell 0
    have c1 := hk.cell 1
    have c4 := hk.cell 4
    have c5 := hk.cell 5
    have c6 := hk.cell 6
    have c7 := hk.cell 7
    have c8 := hk.cell 8
    have c9 := hk.cell 9
    simp only [List.getElem?_toArray, List.getElem?_cons_zero, List.getElem?_cons_succ] at c0 c1 c4 c5 c6 c7 c8 c9
    clear hW hk
    refine wp_region_mild (by kernel_rfl) (by kernel_rfl) ?_
    repeat (go_big_quiet_step ((first | (go_at_call 185; first | (with_reducible exact mild_same (gw _ _ _ _ _ H4.out)) | (with_reducible exact mild_same (gw _ _ _ _ _ H5.out)) | (with_reducible exact mild_same (gw _ _ _ _ _ H6.out)) | (with_reducible exact mild_same (gw _ _ _ _ _ H7.out)) | (with_reducible exact mild_same (gw _ _ _ _ _ H8.out)) | (with_reducible exact mild_same (gw _ _ _ _ _ H9.out))) | (go_at_call 237; exact mild_of (gyard_any _)) | (go_at_call 195; exact mild_of (gins _ _ _ _ _ _ _ _ HI.out)))))
    refine wpQuiet_nil ?_
    intro w1 hw'
    obtain ⟨⟨wq, k1⟩, hw''⟩ := hw'
    subst hw''
    go_wp2
    go_ret
    exact ⟨rfl, bTrans hb k1⟩
  have H6 := Lib.hid h6
  clear h6
  cases h7 : inB (p 7) 0 20
  ·
    have H7 := Lib.hid h7
    clear h7
    simp only [Bool.false_and, Bool.true_and]
    go_enter Tryz.func184, Tryz.ntmps184
    go_wp2_with fail
    obtain ⟨W, hW⟩ : ∃ W, W = w.alloc (.cells #[.int .i32 (p 0), .int .i32 (p 1), .int .i32 (p 2), .int .i32 (p 3), .int .i64 (p 4), .int .i64 (p 5), .int .i64 (p 6), .int .i64 (p 7), .int .i64 (p 8), .int .i64 (p 9)] 35) := ⟨_, rfl⟩
    rw [← hW]
    have hk : Blk W w.heap.size 35 #[.int .i32 (p 0), .int .i32 (p 1), .int .i32 (p 2), .int .i32 (p 3), .int .i64 (p 4), .int .i64 (p 5), .int .i64 (p 6), .int .i64 (p 7), .int .i64 (p 8), .int .i64 (p 9)] := by rw [hW]; exact Blk.new _ _ _
    have hb : Below w.heap.size w W := by rw [hW]; exact bAlloc (Below.refl _ _) _
    have hl := hk.lt
    have c0 := hk.cell 0
    have c1 := hk.cell 1
    have c4 := hk.cell 4
    have c5 := hk.cell 5
    have c6 := hk.cell 6
    have c7 := hk.cell 7
    have c8 := hk.cell 8
    have c9 := hk.cell 9
    simp only [List.getElem?_toArray, List.getElem?_cons_zero, List.getElem?_cons_succ] at c0 c1 c4 c5 c6 c7 c8 c9
    clear hW hk
    refine wp_region_mild (by kernel_rfl) (by kernel_rfl) ?_
    repeat (go_big_quiet_step ((first | (go_at_call 185; first | (with_reducible exact mild_same (gw _ _ _ _ _ H4.out)) | (with_reducible exact mild_same (gw _ _ _ _ _ H5.out)) | (with_reducible exact mild_same (gw _ _ _ _ _ H6.out)) | (with_reducible exact mild_same (gw _ _ _ _ _ H7.out)) | (with_reducible exact mild_same (gw _ _ _ _ _ H8.out)) | (with_reducible exact mild_same (gw _ _ _ _ _ H9.out))) | (go_at_call 237; exact mild_of (gyard_any _)) | (go_at_call 195; exact mild_of (gins _ _ _ _ _ _ _ _ HI.out)))))
    refine wpQuiet_nil ?_
    intro w1 hw'
    obtain ⟨⟨wq, k1⟩, hw''⟩ := hw'
    subst hw''
    go_wp2
    go_ret
    exact ⟨rfl, bTrans hb k1⟩
  have H7 := Lib.hid h7
  clear h7
  cases h8 : inB (p 8) 0 30
  ·
    have H8 := Lib.hid h8
    clear h8
    simp only [Bool.false_and, Bool.true_and]
    go_enter Tryz.func184, Tryz.ntmps184
    go_wp2_with fail
    obtain ⟨W, hW⟩ : ∃ W, W = w.alloc (.cells #[.int .i32 (p 0), .int .i32 (p 1), .int .i32 (p 2), .int .i32 (p 3), .int .i64 (p 4), .int .i64 (p 5), .int .i64 (p 6), .int .i64 (p 7), .int .i64 (p 8), .int .i64 (p 9)] 35) := ⟨_, rfl⟩
    rw [← hW]
    have hk : Blk W w.heap.size 35 #[.int .i32 (p 0), .int .i32 (p 1), .int .i32 (p 2), .int .i32 (p 3), .int .i64 (p 4), .int .i64 (p 5), .int .i64 (p 6), .int .i64 (p 7), .int .i64 (p 8), .int .i64 (p 9)] := by rw [hW]; exact Blk.new _ _ _
    have hb : Below w.heap.size w W := by rw [hW]; exact bAlloc (Below.refl _ _) _
    have hl := hk.lt
    have c0 := hk.cell 0
    have c1 := hk.cell 1
    have c4 := hk.cell 4
    have c5 := hk.cell 5
    have c6 := hk.cell 6
    have c7 := hk.cell 7
    have c8 := hk.cell 8
    have c9 := hk.cell 9
    simp only [List.getElem?_toArray, List.getElem?_cons_zero, List.getElem?_cons_succ] at c0 c1 c4 c5 c6 c7 c8 c9
    clear hW hk
    refine wp_region_mild (by kernel_rfl) (by kernel_rfl) ?_
    repeat (go_big_quiet_step ((first | (go_at_call 185; first | (with_reducible exact mild_same (gw _ _ _ _ _ H4.out)) | (with_reducible exact mild_same (gw _ _ _ _ _ H5.out)) | (with_reducible exact mild_same (gw _ _ _ _ _ H6.out)) | (with_reducible exact mild_same (gw _ _ _ _ _ H7.out)) | (with_reducible exact mild_same (gw _ _ _ _ _ H8.out)) | (with_reducible exact mild_same (gw _ _ _ _ _ H9.out))) | (go_at_call 237; exact mild_of (gyard_any _)) | (go_at_call 195; exact mild_of (gins _ _ _ _ _ _ _ _ HI.out)))))
    refine wpQuiet_nil ?_
    intro w1 hw'
    obtain ⟨⟨wq, k1⟩, hw''⟩ := hw'
    subst hw''
    go_wp2
    go_ret
    exact ⟨rfl, bTrans hb k1⟩
  have H8 := Lib.hid h8
  clear h8
  cases h9 : inB (p 9) 0 2
  ·
    have H9 := Lib.hid h9
    clear h9
    simp only [Bool.false_and, Bool.true_and]
    go_enter Tryz.func184, Tryz.ntmps184
    go_wp2_with fail
    obtain ⟨W, hW⟩ : ∃ W, W = w.alloc (.cells #[.int .i32 (p 0), .int .i32 (p 1), .int .i32 (p 2), .int .i32 (p 3), .int .i64 (p 4), .int .i64 (p 5), .int .i64 (p 6), .int .i64 (p 7), .int .i64 (p 8), .int .i64 (p 9)] 35) := ⟨_, rfl⟩
    rw [← hW]
    have hk : Blk W w.heap.size 35 #[.int .i32 (p 0), .int .i32 (p 1), .int .i32 (p 2), .int .i32 (p 3), .int .i64 (p 4), .int .i64 (p 5), .int .i64 (p 6), .int .i64 (p 7), .int .i64 (p 8), .int .i64 (p 9)] := by rw [hW]; exact Blk.new _ _ _
    have hb : Below w.heap.size w W := by rw [hW]; exact bAlloc (Below.refl _ _) _
    have hl := hk.lt
    have c0 := hk.cell 0
    have c1 := hk.cell 1
    have c4 := hk.cell 4
    have c5 := hk.cell 5
    have c6 := hk.cell 6
    have c7 := hk.cell 7
    have c8 := hk.cell 8
    have c9 := hk.cell 9
    simp only [List.getElem?_toArray, List.getElem?_cons_zero, List.getElem?_cons_succ] at c0 c1 c4 c5 c6 c7 c8 c9
    clear hW hk
    refine wp_region_mild (by kernel_rfl) (by kernel_rfl) ?_
    repeat (go_big_quiet_step ((first | (go_at_call 185; first | (with_reducible exact mild_same (gw _ _ _ _ _ H4.out)) | (with_reducible exact mild_same (gw _ _ _ _ _ H5.out)) | (with_reducible exact mild_same (gw _ _ _ _ _ H6.out)) | (with_reducible exact mild_same (gw _ _ _ _ _ H7.out)) | (with_reducible exact mild_same (gw _ _ _ _ _ H8.out)) | (with_reducible exact mild_same (gw _ _ _ _ _ H9.out))) | (go_at_call 237; exact mild_of (gyard_any _)) | (go_at_call 195; exact mild_of (gins _ _ _ _ _ _ _ _ HI.out)))))
    refine wpQuiet_nil ?_
    intro w1 hw'
    obtain ⟨⟨wq, k1⟩, hw''⟩ := hw'
    subst hw''
    go_wp2
    go_ret
    exact ⟨rfl, bTrans hb k1⟩
  have H9 := Lib.hid h9
  clear h9
  cases hi : insideB (-3932160) (-3932160) 3932160 3932160 (p 0) (p 1)
  ·
    have HI := Lib.hid hi
    clear hi
    simp only [Bool.false_and, Bool.true_and]
    go_enter Tryz.func184, Tryz.ntmps184
    go_wp2_with fail
    obtain ⟨W, hW⟩ : ∃ W, W = w.alloc (.cells #[.int .i32 (p 0), .int .i32 (p 1), .int .i32 (p 2), .int .i32 (p 3), .int .i64 (p 4), .int .i64 (p 5), .int .i64 (p 6), .int .i64 (p 7), .int .i64 (p 8), .int .i64 (p 9)] 35) := ⟨_, rfl⟩
    rw [← hW]
    have hk : Blk W w.heap.size 35 #[.int .i32 (p 0), .int .i32 (p 1), .int .i32 (p 2), .int .i32 (p 3), .int .i64 (p 4), .int .i64 (p 5), .int .i64 (p 6), .int .i64 (p 7), .int .i64 (p 8), .int .i64 (p 9)] := by rw [hW]; exact Blk.new _ _ _
    have hb : Below w.heap.size w W := by rw [hW]; exact bAlloc (Below.refl _ _) _
    have hl := hk.lt
    have c0 := hk.cell 0
    have c1 := hk.cell 1
    have c4 := hk.cell 4
    have c5 := hk.cell 5
    have c6 := hk.cell 6
    have c7 := hk.cell 7
    have c8 := hk.cell 8
    have c9 := hk.cell 9
    simp only [List.getElem?_toArray, List.getElem?_cons_zero, List.getElem?_cons_succ] at c0 c1 c4 c5 c6 c7 c8 c9
    clear hW hk
    refine wp_region_mild (by kernel_rfl) (by kernel_rfl) ?_
    repeat (go_big_quiet_step ((first | (go_at_call 185; first | (with_reducible exact mild_same (gw _ _ _ _ _ H4.out)) | (with_reducible exact mild_same (gw _ _ _ _ _ H5.out)) | (with_reducible exact mild_same (gw _ _ _ _ _ H6.out)) | (with_reducible exact mild_same (gw _ _ _ _ _ H7.out)) | (with_reducible exact mild_same (gw _ _ _ _ _ H8.out)) | (with_reducible exact mild_same (gw _ _ _ _ _ H9.out))) | (go_at_call 237; exact mild_of (gyard_any _)) | (go_at_call 195; exact mild_of (gins _ _ _ _ _ _ _ _ HI.out)))))
    refine wpQuiet_nil ?_
    intro w1 hw'
    obtain ⟨⟨wq, k1⟩, hw''⟩ := hw'
    subst hw''
    go_wp2
    go_ret
    exact ⟨rfl, bTrans hb k1⟩
  have HI := Lib.hid hi
  clear hi
  simp only [Bool.true_and]
  go_enter Tryz.func184, Tryz.ntmps184
  go_wp2_with fail
  obtain ⟨W, hW⟩ : ∃ W, W = w.alloc (.cells #[.int .i32 (p 0), .int .i32 (p 1), .int .i32 (p 2), .int .i32 (p 3), .int .i64 (p 4), .int .i64 (p 5), .int .i64 (p 6), .int .i64 (p 7), .int .i64 (p 8), .int .i64 (p 9)] 35) := ⟨_, rfl⟩
  rw [← hW]
  have hk : Blk W w.heap.size 35 #[.int .i32 (p 0), .int .i32 (p 1), .int .i32 (p 2), .int .i32 (p 3), .int .i64 (p 4), .int .i64 (p 5), .int .i64 (p 6), .int .i64 (p 7), .int .i64 (p 8), .int .i64 (p 9)] := by rw [hW]; exact Blk.new _ _ _
  have hb : Below w.heap.size w W := by rw [hW]; exact bAlloc (Below.refl _ _) _
  have hl := hk.lt
  have c0 := hk.cell 0
  have c1 := hk.cell 1
  have c4 := hk.cell 4
  have c5 := hk.cell 5
  have c6 := hk.cell 6
  have c7 := hk.cell 7
  have c8 := hk.cell 8
  have c9 := hk.cell 9
  simp only [List.getElem?_toArray, List.getElem?_cons_zero, List.getElem?_cons_succ] at c0 c1 c4 c5 c6 c7 c8 c9
  clear hW hk
  refine wp_region_mild (by kernel_rfl) (by kernel_rfl) ?_
  repeat (go_big_quiet_step ((first | (go_at_call 185; first | (with_reducible exact mild_same (gw _ _ _ _ _ H4.out)) | (with_reducible exact mild_same (gw _ _ _ _ _ H5.out)) | (with_reducible exact mild_same (gw _ _ _ _ _ H6.out)) | (with_reducible exact mild_same (gw _ _ _ _ _ H7.out)) | (with_reducible exact mild_same (gw _ _ _ _ _ H8.out)) | (with_reducible exact mild_same (gw _ _ _ _ _ H9.out))) | (go_at_call 237; exact mild_of (gyard_any _)) | (go_at_call 195; exact mild_of (gins _ _ _ _ _ _ _ _ HI.out)))))
  refine wpQuiet_nil ?_
  intro w1 hw'
  obtain ⟨⟨wq, k1⟩, hw''⟩ := hw'
  subst hw''
  go_wp2
  go_ret
  exact ⟨rfl, bTrans hb k1⟩
end
/-- A shot: none, or one that flies in the arena. -/
def shotZ (x : Nat → Int) : Bool := decide (x 0 = 0) && (decide (x 1 = 0) && (decide (x 2 = 0) && (decide (x 3 = 0) && (decide (x 4 = 0) && decide (x 5 = 0)))))
def arenaB (x y : Int) : Bool := insideB (-4194304) (-4194304) 4194304 4194304 x y
def shotB (x : Nat → Int) : Bool := shotZ x || (inB (x 4) 1 2 && (inB (x 5) 1 40 && arenaB (x 0) (x 1)))
theorem nest_six {α : Type} (x : Nat → Int) (A B : α) : (if x 0 = 0 then if x 1 = 0 then if x 2 = 0 then if x 3 = 0 then if x 4 = 0 then if x 5 = 0 then A else B else B else B else B else B else B) = if shotZ x then A else B := by
  unfold shotZ
  by_cases h0 : x 0 = 0 <;> by_cases h1 : x 1 = 0 <;> by_cases h2 : x 2 = 0 <;> by_cases h3 : x 3 = 0 <;> by_cases h4 : x 4 = 0 <;> by_cases h5 : x 5 = 0 <;> simp [h0, h1, h2, h3, h4, h5]
section
variable (x : Nat → Int) (w : World)
set_option maxHeartbeats 4000000 in
theorem gshot_any : Calls Tryz.prog 183 #[.agg #[.int .i32 (x 0), .int .i32 (x 1), .int .i32 (x 2), .int .i32 (x 3), .int .i64 (x 4), .int .i64 (x 5)]] w fun e w' => e = .returned (.bool (shotB x)) ∧ Below w.heap.size w w' := by
  unfold shotB
  cases hz : shotZ x
  all_goals
    have HZ := Lib.hid hz
    clear hz
  · cases h4 : inB (x 4) 1 2
    all_goals
      have H4 := Lib.hid h4
      clear h4
    · simp only [Bool.false_and, Bool.false_or]
      go_enter Tryz.func183, Tryz.ntmps183
      go_wp2_with fail
      obtain ⟨W, hW⟩ : ∃ W, W = w.alloc (.cells #[.int .i32 (x 0), .int .i32 (x 1), .int .i32 (x 2), .int .i32 (x 3), .int .i64 (x 4), .int .i64 (x 5)] 38) := ⟨_, rfl⟩
      rw [← hW]
      have hk : Blk W w.heap.size 38 #[.int .i32 (x 0), .int .i32 (x 1), .int .i32 (x 2), .int .i32 (x 3), .int .i64 (x 4), .int .i64 (x 5)] := by rw [hW]; exact Blk.new _ _ _
      have hb : Below w.heap.size w W := by rw [hW]; exact bAlloc (Below.refl _ _) _
      have hl := hk.lt
      have c0 := hk.cell 0
      have c1 := hk.cell 1
      have c2 := hk.cell 2
      have c3 := hk.cell 3
      have c4 := hk.cell 4
      have c5 := hk.cell 5
      simp only [List.getElem?_toArray, List.getElem?_cons_zero, List.getElem?_cons_succ] at c0 c1 c2 c3 c4 c5
      clear hW hk
      refine wp_region_mild (by kernel_rfl) (by kernel_rfl) ?_
      repeat (go_big_quiet_step ((first | (rw [nest_six x, HZ.out]; exact ⟨rfl, rfl⟩) | (go_at_call 185; first | (with_reducible exact mild_same (gw _ _ _ _ _ H4.out)) | (with_reducible exact mild_same (gw _ _ _ _ _ H5.out))) | (go_at_call 196; exact mild_of (garena_any _)) | (go_at_call 195; exact mild_of (gins _ _ _ _ _ _ _ _ HI.out)))))
      refine wpQuiet_nil ?_
      intro w1 hw'
      obtain ⟨⟨wq, k1⟩, hw''⟩ := hw'
      subst hw''
      go_wp2
      go_ret
      exact ⟨rfl, bTrans hb k1⟩
    · cases h5 : inB (x 5) 1 40
      all_goals
        have H5 := Lib.hid h5
        clear h5
      · simp only [Bool.false_and, Bool.false_or, Bool.true_and]
        go_enter Tryz.func183, Tryz.ntmps183
        go_wp2_with fail
        obtain ⟨W, hW⟩ : ∃ W, W = w.alloc (.cells #[.int .i32 (x 0), .int .i32 (x 1), .int .i32 (x 2), .int .i32 (x 3), .int .i64 (x 4), .int .i64 (x 5)] 38) := ⟨_, rfl⟩
        rw [← hW]
        have hk : Blk W w.heap.size 38 #[.int .i32 (x 0), .int .i32 (x 1), .int .i32 (x 2), .int .i32 (x 3), .int .i64 (x 4), .int .i64 (x 5)] := by rw [hW]; exact Blk.new _ _ _
        have hb : Below w.heap.size w W := by rw [hW]; exact bAlloc (Below.refl _ _) _
        have hl := hk.lt
        have c0 := hk.cell 0
        have c1 := hk.cell 1
        have c2 := hk.cell 2
        have c3 := hk.cell 3
        have c4 := hk.cell 4
        have c5 := hk.cell 5
        simp only [List.getElem?_toArray, List.getElem?_cons_zero, List.getElem?_cons_succ] at c0 c1 c2 c3 c4 c5
        clear hW hk
        refine wp_region_mild (by kernel_rfl) (by kernel_rfl) ?_
        repeat (go_big_quiet_step ((first | (rw [nest_six x, HZ.out]; exact ⟨rfl, rfl⟩) | (go_at_call 185; first | (with_reducible exact mild_same (gw _ _ _ _ _ H4.out)) | (with_reducible exact mild_same (gw _ _ _ _ _ H5.out))) | (go_at_call 196; exact mild_of (garena_any _)) | (go_at_call 195; exact mild_of (gins _ _ _ _ _ _ _ _ HI.out)))))
        refine wpQuiet_nil ?_
        intro w1 hw'
        obtain ⟨⟨wq, k1⟩, hw''⟩ := hw'
        subst hw''
        go_wp2
        go_ret
        exact ⟨rfl, bTrans hb k1⟩
      · simp only [Bool.false_or, Bool.true_and]
        obtain ⟨b, hi⟩ : ∃ b, arenaB (x 0) (x 1) = b := ⟨_, rfl⟩
        have HI := Lib.hid hi
        rw [hi]
        clear hi
        go_enter Tryz.func183, Tryz.ntmps183
        go_wp2_with fail
        obtain ⟨W, hW⟩ : ∃ W, W = w.alloc (.cells #[.int .i32 (x 0), .int .i32 (x 1), .int .i32 (x 2), .int .i32 (x 3), .int .i64 (x 4), .int .i64 (x 5)] 38) := ⟨_, rfl⟩
        rw [← hW]
        have hk : Blk W w.heap.size 38 #[.int .i32 (x 0), .int .i32 (x 1), .int .i32 (x 2), .int .i32 (x 3), .int .i64 (x 4), .int .i64 (x 5)] := by rw [hW]; exact Blk.new _ _ _
        have hb : Below w.heap.size w W := by rw [hW]; exact bAlloc (Below.refl _ _) _
        have hl := hk.lt
        have c0 := hk.cell 0
        have c1 := hk.cell 1
        have c2 := hk.cell 2
        have c3 := hk.cell 3
        have c4 := hk.cell 4
        have c5 := hk.cell 5
        simp only [List.getElem?_toArray, List.getElem?_cons_zero, List.getElem?_cons_succ] at c0 c1 c2 c3 c4 c5
        clear hW hk
        refine wp_region_mild (by kernel_rfl) (by kernel_rfl) ?_
        repeat (go_big_quiet_step ((first | (rw [nest_six x, HZ.out]; exact ⟨rfl, rfl⟩) | (go_at_call 185; first | (with_reducible exact mild_same (gw _ _ _ _ _ H4.out)) | (with_reducible exact mild_same (gw _ _ _ _ _ H5.out))) | (go_at_call 196; exact mild_of (garena_any _)) | (go_at_call 195; exact mild_of (gins _ _ _ _ _ _ _ _ HI.out)))))
        refine wpQuiet_nil ?_
        intro w1 hw'
        obtain ⟨⟨wq, k1⟩, hw''⟩ := hw'
        subst hw''
        go_wp2
        go_ret
        exact ⟨rfl, bTrans hb k1⟩
  · simp only [Bool.true_or]
    go_enter Tryz.func183, Tryz.ntmps183
    go_wp2_with fail
    obtain ⟨W, hW⟩ : ∃ W, W = w.alloc (.cells #[.int .i32 (x 0), .int .i32 (x 1), .int .i32 (x 2), .int .i32 (x 3), .int .i64 (x 4), .int .i64 (x 5)] 38) := ⟨_, rfl⟩
    rw [← hW]
    have hk : Blk W w.heap.size 38 #[.int .i32 (x 0), .int .i32 (x 1), .int .i32 (x 2), .int .i32 (x 3), .int .i64 (x 4), .int .i64 (x 5)] := by rw [hW]; exact Blk.new _ _ _
    have hb : Below w.heap.size w W := by rw [hW]; exact bAlloc (Below.refl _ _) _
    have hl := hk.lt
    have c0 := hk.cell 0
    have c1 := hk.cell 1
    have c2 := hk.cell 2
    have c3 := hk.cell 3
    have c4 := hk.cell 4
    have c5 := hk.cell 5
    simp only [List.getElem?_toArray, List.getElem?_cons_zero, List.getElem?_cons_succ] at c0 c1 c2 c3 c4 c5
    clear hW hk
    refine wp_region_mild (by kernel_rfl) (by kernel_rfl) ?_
    repeat (go_big_quiet_step ((first | (rw [nest_six x, HZ.out]; exact ⟨rfl, rfl⟩) | (go_at_call 185; first | (with_reducible exact mild_same (gw _ _ _ _ _ H4.out)) | (with_reducible exact mild_same (gw _ _ _ _ _ H5.out))) | (go_at_call 196; exact mild_of (garena_any _)) | (go_at_call 195; exact mild_of (gins _ _ _ _ _ _ _ _ HI.out)))))
    refine wpQuiet_nil ?_
    intro w1 hw'
    obtain ⟨⟨wq, k1⟩, hw''⟩ := hw'
    subst hw''
    go_wp2
    go_ret
    exact ⟨rfl, bTrans hb k1⟩
end
end
end Go.Proofs.YtibeihcpehikoaaGreat
