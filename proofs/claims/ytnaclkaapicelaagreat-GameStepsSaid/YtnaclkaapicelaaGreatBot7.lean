/-
  May a state be? The document's answer.
-/
import Derived.Test.YtnaclkaapicelaaGreatBot5
namespace Go.Proofs.YtnaclkaapicelaaGreat
open Go.RowKit
set_option maxRecDepth 100000
set_option linter.unusedSimpArgs false
theorem playerB_iff' (p : Nat → Int) : playerB p = true ↔ (0 ≤ p 4 ∧ p 4 ≤ 65535) ∧ (0 ≤ p 5 ∧ p 5 ≤ 3) ∧ (0 ≤ p 6 ∧ p 6 ≤ 8) ∧ (0 ≤ p 7 ∧ p 7 ≤ 20) ∧ (0 ≤ p 8 ∧ p 8 ≤ 30) ∧ (0 ≤ p 9 ∧ p 9 ≤ 2) ∧
    insideB (-3932160) (-3932160) 3932160 3932160 (p 0) (p 1) = true ∧ (decide (0 < p 5) == (p 8 == 0)) = true := by
  unfold playerB
  simp only [Bool.and_eq_true, inB_iff']
theorem rins (lx ly hx hy x y : Int) (w : World) (b : Bool) (h : insideB lx ly hx hy x y = b) : Calls Tryz.prog 33 #[.agg #[.int .i32 lx, .int .i32 ly, .int .i32 hx, .int .i32 hy], .agg #[.int .i32 x, .int .i32 y]] w fun e w' => e = .returned (.bool b) ∧ Below w.heap.size w w' :=
  (r10Inside_any lx ly hx hy x y w).mono fun _ _ ⟨h1, h2⟩ => ⟨by rw [h1, h], h2⟩
theorem beq_flip_t {a b : Bool} (h : (a == b) = false) : (!a == b) = true := by cases a <;> cases b <;> simp_all
theorem beq_flip_f {a b : Bool} (h : (a == b) = true) : (!a == b) = false := by cases a <;> cases b <;> simp_all
theorem rightS_p (S : Nat → Int) (i : Nat) (hi : i < 2) (h : playerB (getP S i) = false) : rightS S = false := by
  unfold rightS rightT
  have : i = 0 ∨ i = 1 := by omega
  rcases this with rfl | rfl <;> rw [h] <;> simp
theorem st_sh {w : World} {g : Nat} {S : Nat → Int} (h : Blk w g 33 (stCells S).toArray) (k : Nat) (hk : k < 6) : w.cell? ⟨g, 24 + k * 6, none⟩ = some (.int .i32 (getS S k 0)) ∧ w.cell? ⟨g, 24 + k * 6 + 1, none⟩ = some (.int .i32 (getS S k 1)) ∧ w.cell? ⟨g, 24 + k * 6 + 2, none⟩ = some (.int .i32 (getS S k 2)) ∧ w.cell? ⟨g, 24 + k * 6 + 3, none⟩ = some (.int .i32 (getS S k 3)) ∧ w.cell? ⟨g, 24 + k * 6 + 4, none⟩ = some (.int .i64 (getS S k 4)) ∧ w.cell? ⟨g, 24 + k * 6 + 5, none⟩ = some (.int .i64 (getS S k 5)) := by
  have h6 : k = 0 ∨ k = 1 ∨ k = 2 ∨ k = 3 ∨ k = 4 ∨ k = 5 := by omega
  rcases h6 with rfl | rfl | rfl | rfl | rfl | rfl
  · exact ⟨st_cell h 24 (by decide), st_cell h 25 (by decide), st_cell h 26 (by decide), st_cell h 27 (by decide), st_cell h 28 (by decide), st_cell h 29 (by decide)⟩
  · exact ⟨st_cell h 30 (by decide), st_cell h 31 (by decide), st_cell h 32 (by decide), st_cell h 33 (by decide), st_cell h 34 (by decide), st_cell h 35 (by decide)⟩
  · exact ⟨st_cell h 36 (by decide), st_cell h 37 (by decide), st_cell h 38 (by decide), st_cell h 39 (by decide), st_cell h 40 (by decide), st_cell h 41 (by decide)⟩
  · exact ⟨st_cell h 42 (by decide), st_cell h 43 (by decide), st_cell h 44 (by decide), st_cell h 45 (by decide), st_cell h 46 (by decide), st_cell h 47 (by decide)⟩
  · exact ⟨st_cell h 48 (by decide), st_cell h 49 (by decide), st_cell h 50 (by decide), st_cell h 51 (by decide), st_cell h 52 (by decide), st_cell h 53 (by decide)⟩
  · exact ⟨st_cell h 54 (by decide), st_cell h 55 (by decide), st_cell h 56 (by decide), st_cell h 57 (by decide), st_cell h 58 (by decide), st_cell h 59 (by decide)⟩
theorem shotB_iff' (x : Nat → Int) : shotB x = true ↔ shotZ x = true ∨ ((1 ≤ x 4 ∧ x 4 ≤ 2) ∧ (1 ≤ x 5 ∧ x 5 ≤ 40) ∧ insideB (-4194304) (-4194304) 4194304 4194304 (x 0) (x 1) = true) := by
  unfold shotB arenaB
  simp only [Bool.or_eq_true, Bool.and_eq_true, inB_iff']
set_option maxHeartbeats 16000000 in
theorem r12Right_any (S : Nat → Int) (w : World) : Calls Tryz.prog 10 #[.agg (stCells S).toArray] w fun e w' => e = .returned (.bool (rightS S)) ∧ Below w.heap.size w w' := by
  have HK0 := Lib.hid (show Blk (w.alloc (.cells (stCells S).toArray 33)) w.heap.size 33 (stCells S).toArray from Blk.new _ _ _)
  have hb0 : Below w.heap.size w (w.alloc (.cells (stCells S).toArray 33)) := bAlloc (Below.refl _ _) _
  go_enter Tryz.func10, Tryz.ntmps10
  go_wp2_with fail
  obtain ⟨W, hW⟩ : ∃ W, W = w.alloc (.cells (stCells S).toArray 33) := ⟨_, rfl⟩
  rw [← hW] at HK0 hb0 ⊢
  clear hW
  go_loopw [3] (fun v wr => ∃ i : Nat, i ≤ 2 ∧ v = .int .i64 i ∧ Hid (∀ j, j < i → playerB (getP S j) = true) ∧ Hid (Blk wr w.heap.size 33 (stCells S).toArray) ∧ Below w.heap.size w wr) (fun v _ => 2 - (intOf v).toNat)
  case atStart => exact ⟨0, by decide, rfl, Lib.hid (fun j hj => absurd hj (Nat.not_lt_zero j)), HK0, hb0⟩
  case round =>
    clear HK0 hb0
    obtain ⟨i, hi, rfl, HALL, HB, hbr⟩ := hrel
    have hlb := HB.out.lt
    by_cases hlt : i < 2
    · have hi2 : i = 0 ∨ i = 1 := by omega
      rcases hi2 with rfl | rfl
      · cases hp : playerB (getP S 0)
        ·
          by_cases l4 : getP S 0 4 < 0
          · have l4' : decide (getP S 0 4 < 0) = true := decide_eq_true l4
            clear l4
            as_aux_lemma =>
              have HNO := Lib.hid (rightS_p S 0 (by decide) hp)
              clear hp
              go_wp2_with (first | (refine wpList_load_mid rfl 27 (.tmp 13) rfl w.heap.size 4 rfl [.int .i32 (getP S 0 0), .int .i32 (getP S 0 1), .int .i32 (getP S 0 2), .int .i32 (getP S 0 3), .int .i64 (getP S 0 4), .int .i64 (getP S 0 5), .int .i64 (getP S 0 6), .int .i64 (getP S 0 7), .int .i64 (getP S 0 8), .int .i64 (getP S 0 9)] _ (st_pl0 HB.out) Tryz.underlying27 rfl (by kernel_rfl) ?_))
              have hk1 := Blk.new wr 27 #[.int .i32 (getP S 0 0), .int .i32 (getP S 0 1), .int .i32 (getP S 0 2), .int .i32 (getP S 0 3), .int .i64 (getP S 0 4), .int .i64 (getP S 0 5), .int .i64 (getP S 0 6), .int .i64 (getP S 0 7), .int .i64 (getP S 0 8), .int .i64 (getP S 0 9)]
              have hb1 := bAlloc hbr (.cells #[.int .i32 (getP S 0 0), .int .i32 (getP S 0 1), .int .i32 (getP S 0 2), .int .i32 (getP S 0 3), .int .i64 (getP S 0 4), .int .i64 (getP S 0 5), .int .i64 (getP S 0 6), .int .i64 (getP S 0 7), .int .i64 (getP S 0 8), .int .i64 (getP S 0 9)] 27)
              obtain ⟨W5, hW5⟩ : ∃ W5, wr.alloc (.cells #[.int .i32 (getP S 0 0), .int .i32 (getP S 0 1), .int .i32 (getP S 0 2), .int .i32 (getP S 0 3), .int .i64 (getP S 0 4), .int .i64 (getP S 0 5), .int .i64 (getP S 0 6), .int .i64 (getP S 0 7), .int .i64 (getP S 0 8), .int .i64 (getP S 0 9)] 27) = W5 := ⟨_, rfl⟩
              rw [hW5] at hk1 hb1 ⊢
              have HB5 : Hid (Blk W5 w.heap.size 33 (stCells S).toArray) := by rw [← hW5]; exact Lib.hid (HB.out.alloc _)
              have g0 := hk1.cell 0
              have g1 := hk1.cell 1
              have g4 := hk1.cell 4
              have g5 := hk1.cell 5
              have g6 := hk1.cell 6
              have g7 := hk1.cell 7
              have g8 := hk1.cell 8
              have g9 := hk1.cell 9
              have gl := hk1.lt
              simp only [List.getElem?_toArray, List.getElem?_cons_zero, List.getElem?_cons_succ] at g0 g1 g4 g5 g6 g7 g8 g9
              clear hW5 hk1
              try simp only [List.append_eq, List.cons_append, List.nil_append]
              refine wp_region_mild (by kernel_rfl) (by kernel_rfl) ?_
              repeat (go_big_quiet_step ((first | (go_at_call 34; exact mild_of (r12Box_60 _)) | (go_at_call 33; exact mild_of (rins _ _ _ _ _ _ _ _ HIN.out)))))
              refine wpQuiet_nil ?_
              intro w6 hw'
              obtain ⟨⟨wq, k6⟩, hw''⟩ := hw'
              subst hw''
              go_wp2
              go_ret
              exact ⟨ret_bool HNO.out.symm, bTrans hb1 k6⟩
          have l4' : decide (getP S 0 4 < 0) = false := decide_eq_false l4
          by_cases h4 : 65535 < getP S 0 4
          · have h4' : decide (65535 < getP S 0 4) = true := decide_eq_true h4
            clear l4 h4
            as_aux_lemma =>
              have HNO := Lib.hid (rightS_p S 0 (by decide) hp)
              clear hp
              go_wp2_with (first | (refine wpList_load_mid rfl 27 (.tmp 13) rfl w.heap.size 4 rfl [.int .i32 (getP S 0 0), .int .i32 (getP S 0 1), .int .i32 (getP S 0 2), .int .i32 (getP S 0 3), .int .i64 (getP S 0 4), .int .i64 (getP S 0 5), .int .i64 (getP S 0 6), .int .i64 (getP S 0 7), .int .i64 (getP S 0 8), .int .i64 (getP S 0 9)] _ (st_pl0 HB.out) Tryz.underlying27 rfl (by kernel_rfl) ?_))
              have hk1 := Blk.new wr 27 #[.int .i32 (getP S 0 0), .int .i32 (getP S 0 1), .int .i32 (getP S 0 2), .int .i32 (getP S 0 3), .int .i64 (getP S 0 4), .int .i64 (getP S 0 5), .int .i64 (getP S 0 6), .int .i64 (getP S 0 7), .int .i64 (getP S 0 8), .int .i64 (getP S 0 9)]
              have hb1 := bAlloc hbr (.cells #[.int .i32 (getP S 0 0), .int .i32 (getP S 0 1), .int .i32 (getP S 0 2), .int .i32 (getP S 0 3), .int .i64 (getP S 0 4), .int .i64 (getP S 0 5), .int .i64 (getP S 0 6), .int .i64 (getP S 0 7), .int .i64 (getP S 0 8), .int .i64 (getP S 0 9)] 27)
              obtain ⟨W5, hW5⟩ : ∃ W5, wr.alloc (.cells #[.int .i32 (getP S 0 0), .int .i32 (getP S 0 1), .int .i32 (getP S 0 2), .int .i32 (getP S 0 3), .int .i64 (getP S 0 4), .int .i64 (getP S 0 5), .int .i64 (getP S 0 6), .int .i64 (getP S 0 7), .int .i64 (getP S 0 8), .int .i64 (getP S 0 9)] 27) = W5 := ⟨_, rfl⟩
              rw [hW5] at hk1 hb1 ⊢
              have HB5 : Hid (Blk W5 w.heap.size 33 (stCells S).toArray) := by rw [← hW5]; exact Lib.hid (HB.out.alloc _)
              have g0 := hk1.cell 0
              have g1 := hk1.cell 1
              have g4 := hk1.cell 4
              have g5 := hk1.cell 5
              have g6 := hk1.cell 6
              have g7 := hk1.cell 7
              have g8 := hk1.cell 8
              have g9 := hk1.cell 9
              have gl := hk1.lt
              simp only [List.getElem?_toArray, List.getElem?_cons_zero, List.getElem?_cons_succ] at g0 g1 g4 g5 g6 g7 g8 g9
              clear hW5 hk1
              try simp only [List.append_eq, List.cons_append, List.nil_append]
              refine wp_region_mild (by kernel_rfl) (by kernel_rfl) ?_
              repeat (go_big_quiet_step ((first | (go_at_call 34; exact mild_of (r12Box_60 _)) | (go_at_call 33; exact mild_of (rins _ _ _ _ _ _ _ _ HIN.out)))))
              refine wpQuiet_nil ?_
              intro w6 hw'
              obtain ⟨⟨wq, k6⟩, hw''⟩ := hw'
              subst hw''
              go_wp2
              go_ret
              exact ⟨ret_bool HNO.out.symm, bTrans hb1 k6⟩
          have h4' : decide (65535 < getP S 0 4) = false := decide_eq_false h4
          by_cases l5 : getP S 0 5 < 0
          · have l5' : decide (getP S 0 5 < 0) = true := decide_eq_true l5
            clear l5
            as_aux_lemma =>
              have HNO := Lib.hid (rightS_p S 0 (by decide) hp)
              clear hp
              go_wp2_with (first | (refine wpList_load_mid rfl 27 (.tmp 13) rfl w.heap.size 4 rfl [.int .i32 (getP S 0 0), .int .i32 (getP S 0 1), .int .i32 (getP S 0 2), .int .i32 (getP S 0 3), .int .i64 (getP S 0 4), .int .i64 (getP S 0 5), .int .i64 (getP S 0 6), .int .i64 (getP S 0 7), .int .i64 (getP S 0 8), .int .i64 (getP S 0 9)] _ (st_pl0 HB.out) Tryz.underlying27 rfl (by kernel_rfl) ?_))
              have hk1 := Blk.new wr 27 #[.int .i32 (getP S 0 0), .int .i32 (getP S 0 1), .int .i32 (getP S 0 2), .int .i32 (getP S 0 3), .int .i64 (getP S 0 4), .int .i64 (getP S 0 5), .int .i64 (getP S 0 6), .int .i64 (getP S 0 7), .int .i64 (getP S 0 8), .int .i64 (getP S 0 9)]
              have hb1 := bAlloc hbr (.cells #[.int .i32 (getP S 0 0), .int .i32 (getP S 0 1), .int .i32 (getP S 0 2), .int .i32 (getP S 0 3), .int .i64 (getP S 0 4), .int .i64 (getP S 0 5), .int .i64 (getP S 0 6), .int .i64 (getP S 0 7), .int .i64 (getP S 0 8), .int .i64 (getP S 0 9)] 27)
              obtain ⟨W5, hW5⟩ : ∃ W5, wr.alloc (.cells #[.int .i32 (getP S 0 0), .int .i32 (getP S 0 1), .int .i32 (getP S 0 2), .int .i32 (getP S 0 3), .int .i64 (getP S 0 4), .int .i64 (getP S 0 5), .int .i64 (getP S 0 6), .int .i64 (getP S 0 7), .int .i64 (getP S 0 8), .int .i64 (getP S 0 9)] 27) = W5 := ⟨_, rfl⟩
              rw [hW5] at hk1 hb1 ⊢
              have HB5 : Hid (Blk W5 w.heap.size 33 (stCells S).toArray) := by rw [← hW5]; exact Lib.hid (HB.out.alloc _)
              have g0 := hk1.cell 0
              have g1 := hk1.cell 1
              have g4 := hk1.cell 4
              have g5 := hk1.cell 5
              have g6 := hk1.cell 6
              have g7 := hk1.cell 7
              have g8 := hk1.cell 8
              have g9 := hk1.cell 9
              have gl := hk1.lt
              simp only [List.getElem?_toArray, List.getElem?_cons_zero, List.getElem?_cons_succ] at g0 g1 g4 g5 g6 g7 g8 g9
              clear hW5 hk1
              try simp only [List.append_eq, List.cons_append, List.nil_append]
              refine wp_region_mild (by kernel_rfl) (by kernel_rfl) ?_
              repeat (go_big_quiet_step ((first | (go_at_call 34; exact mild_of (r12Box_60 _)) | (go_at_call 33; exact mild_of (rins _ _ _ _ _ _ _ _ HIN.out)))))
              refine wpQuiet_nil ?_
              intro w6 hw'
              obtain ⟨⟨wq, k6⟩, hw''⟩ := hw'
              subst hw''
              go_wp2
              go_ret
              exact ⟨ret_bool HNO.out.symm, bTrans hb1 k6⟩
          have l5' : decide (getP S 0 5 < 0) = false := decide_eq_false l5
          by_cases h5 : 3 < getP S 0 5
          · have h5' : decide (3 < getP S 0 5) = true := decide_eq_true h5
            clear l5 h5
            as_aux_lemma =>
              have HNO := Lib.hid (rightS_p S 0 (by decide) hp)
              clear hp
              go_wp2_with (first | (refine wpList_load_mid rfl 27 (.tmp 13) rfl w.heap.size 4 rfl [.int .i32 (getP S 0 0), .int .i32 (getP S 0 1), .int .i32 (getP S 0 2), .int .i32 (getP S 0 3), .int .i64 (getP S 0 4), .int .i64 (getP S 0 5), .int .i64 (getP S 0 6), .int .i64 (getP S 0 7), .int .i64 (getP S 0 8), .int .i64 (getP S 0 9)] _ (st_pl0 HB.out) Tryz.underlying27 rfl (by kernel_rfl) ?_))
              have hk1 := Blk.new wr 27 #[.int .i32 (getP S 0 0), .int .i32 (getP S 0 1), .int .i32 (getP S 0 2), .int .i32 (getP S 0 3), .int .i64 (getP S 0 4), .int .i64 (getP S 0 5), .int .i64 (getP S 0 6), .int .i64 (getP S 0 7), .int .i64 (getP S 0 8), .int .i64 (getP S 0 9)]
              have hb1 := bAlloc hbr (.cells #[.int .i32 (getP S 0 0), .int .i32 (getP S 0 1), .int .i32 (getP S 0 2), .int .i32 (getP S 0 3), .int .i64 (getP S 0 4), .int .i64 (getP S 0 5), .int .i64 (getP S 0 6), .int .i64 (getP S 0 7), .int .i64 (getP S 0 8), .int .i64 (getP S 0 9)] 27)
              obtain ⟨W5, hW5⟩ : ∃ W5, wr.alloc (.cells #[.int .i32 (getP S 0 0), .int .i32 (getP S 0 1), .int .i32 (getP S 0 2), .int .i32 (getP S 0 3), .int .i64 (getP S 0 4), .int .i64 (getP S 0 5), .int .i64 (getP S 0 6), .int .i64 (getP S 0 7), .int .i64 (getP S 0 8), .int .i64 (getP S 0 9)] 27) = W5 := ⟨_, rfl⟩
              rw [hW5] at hk1 hb1 ⊢
              have HB5 : Hid (Blk W5 w.heap.size 33 (stCells S).toArray) := by rw [← hW5]; exact Lib.hid (HB.out.alloc _)
              have g0 := hk1.cell 0
              have g1 := hk1.cell 1
              have g4 := hk1.cell 4
              have g5 := hk1.cell 5
              have g6 := hk1.cell 6
              have g7 := hk1.cell 7
              have g8 := hk1.cell 8
              have g9 := hk1.cell 9
              have gl := hk1.lt
              simp only [List.getElem?_toArray, List.getElem?_cons_zero, List.getElem?_cons_succ] at g0 g1 g4 g5 g6 g7 g8 g9
              clear hW5 hk1
              try simp only [List.append_eq, List.cons_append, List.nil_append]
              refine wp_region_mild (by kernel_rfl) (by kernel_rfl) ?_
              repeat (go_big_quiet_step ((first | (go_at_call 34; exact mild_of (r12Box_60 _)) | (go_at_call 33; exact mild_of (rins _ _ _ _ _ _ _ _ HIN.out)))))
              refine wpQuiet_nil ?_
              intro w6 hw'
              obtain ⟨⟨wq, k6⟩, hw''⟩ := hw'
              subst hw''
              go_wp2
              go_ret
              exact ⟨ret_bool HNO.out.symm, bTrans hb1 k6⟩
          have h5' : decide (3 < getP S 0 5) = false := decide_eq_false h5
          by_cases l6 : getP S 0 6 < 0
          · have l6' : decide (getP S 0 6 < 0) = true := decide_eq_true l6
            clear l6
            as_aux_lemma =>
              have HNO := Lib.hid (rightS_p S 0 (by decide) hp)
              clear hp
              go_wp2_with (first | (refine wpList_load_mid rfl 27 (.tmp 13) rfl w.heap.size 4 rfl [.int .i32 (getP S 0 0), .int .i32 (getP S 0 1), .int .i32 (getP S 0 2), .int .i32 (getP S 0 3), .int .i64 (getP S 0 4), .int .i64 (getP S 0 5), .int .i64 (getP S 0 6), .int .i64 (getP S 0 7), .int .i64 (getP S 0 8), .int .i64 (getP S 0 9)] _ (st_pl0 HB.out) Tryz.underlying27 rfl (by kernel_rfl) ?_))
              have hk1 := Blk.new wr 27 #[.int .i32 (getP S 0 0), .int .i32 (getP S 0 1), .int .i32 (getP S 0 2), .int .i32 (getP S 0 3), .int .i64 (getP S 0 4), .int .i64 (getP S 0 5), .int .i64 (getP S 0 6), .int .i64 (getP S 0 7), .int .i64 (getP S 0 8), .int .i64 (getP S 0 9)]
              have hb1 := bAlloc hbr (.cells #[.int .i32 (getP S 0 0), .int .i32 (getP S 0 1), .int .i32 (getP S 0 2), .int .i32 (getP S 0 3), .int .i64 (getP S 0 4), .int .i64 (getP S 0 5), .int .i64 (getP S 0 6), .int .i64 (getP S 0 7), .int .i64 (getP S 0 8), .int .i64 (getP S 0 9)] 27)
              obtain ⟨W5, hW5⟩ : ∃ W5, wr.alloc (.cells #[.int .i32 (getP S 0 0), .int .i32 (getP S 0 1), .int .i32 (getP S 0 2), .int .i32 (getP S 0 3), .int .i64 (getP S 0 4), .int .i64 (getP S 0 5), .int .i64 (getP S 0 6), .int .i64 (getP S 0 7), .int .i64 (getP S 0 8), .int .i64 (getP S 0 9)] 27) = W5 := ⟨_, rfl⟩
              rw [hW5] at hk1 hb1 ⊢
              have HB5 : Hid (Blk W5 w.heap.size 33 (stCells S).toArray) := by rw [← hW5]; exact Lib.hid (HB.out.alloc _)
              have g0 := hk1.cell 0
              have g1 := hk1.cell 1
              have g4 := hk1.cell 4
              have g5 := hk1.cell 5
              have g6 := hk1.cell 6
              have g7 := hk1.cell 7
              have g8 := hk1.cell 8
              have g9 := hk1.cell 9
              have gl := hk1.lt
              simp only [List.getElem?_toArray, List.getElem?_cons_zero, List.getElem?_cons_succ] at g0 g1 g4 g5 g6 g7 g8 g9
              clear hW5 hk1
              try simp only [List.append_eq, List.cons_append, List.nil_append]
              refine wp_region_mild (by kernel_rfl) (by kernel_rfl) ?_
              repeat (go_big_quiet_step ((first | (go_at_call 34; exact mild_of (r12Box_60 _)) | (go_at_call 33; exact mild_of (rins _ _ _ _ _ _ _ _ HIN.out)))))
              refine wpQuiet_nil ?_
              intro w6 hw'
              obtain ⟨⟨wq, k6⟩, hw''⟩ := hw'
              subst hw''
              go_wp2
              go_ret
              exact ⟨ret_bool HNO.out.symm, bTrans hb1 k6⟩
          have l6' : decide (getP S 0 6 < 0) = false := decide_eq_false l6
          by_cases h6 : 8 < getP S 0 6
          · have h6' : decide (8 < getP S 0 6) = true := decide_eq_true h6
            clear l6 h6
            as_aux_lemma =>
              have HNO := Lib.hid (rightS_p S 0 (by decide) hp)
              clear hp
              go_wp2_with (first | (refine wpList_load_mid rfl 27 (.tmp 13) rfl w.heap.size 4 rfl [.int .i32 (getP S 0 0), .int .i32 (getP S 0 1), .int .i32 (getP S 0 2), .int .i32 (getP S 0 3), .int .i64 (getP S 0 4), .int .i64 (getP S 0 5), .int .i64 (getP S 0 6), .int .i64 (getP S 0 7), .int .i64 (getP S 0 8), .int .i64 (getP S 0 9)] _ (st_pl0 HB.out) Tryz.underlying27 rfl (by kernel_rfl) ?_))
              have hk1 := Blk.new wr 27 #[.int .i32 (getP S 0 0), .int .i32 (getP S 0 1), .int .i32 (getP S 0 2), .int .i32 (getP S 0 3), .int .i64 (getP S 0 4), .int .i64 (getP S 0 5), .int .i64 (getP S 0 6), .int .i64 (getP S 0 7), .int .i64 (getP S 0 8), .int .i64 (getP S 0 9)]
              have hb1 := bAlloc hbr (.cells #[.int .i32 (getP S 0 0), .int .i32 (getP S 0 1), .int .i32 (getP S 0 2), .int .i32 (getP S 0 3), .int .i64 (getP S 0 4), .int .i64 (getP S 0 5), .int .i64 (getP S 0 6), .int .i64 (getP S 0 7), .int .i64 (getP S 0 8), .int .i64 (getP S 0 9)] 27)
              obtain ⟨W5, hW5⟩ : ∃ W5, wr.alloc (.cells #[.int .i32 (getP S 0 0), .int .i32 (getP S 0 1), .int .i32 (getP S 0 2), .int .i32 (getP S 0 3), .int .i64 (getP S 0 4), .int .i64 (getP S 0 5), .int .i64 (getP S 0 6), .int .i64 (getP S 0 7), .int .i64 (getP S 0 8), .int .i64 (getP S 0 9)] 27) = W5 := ⟨_, rfl⟩
              rw [hW5] at hk1 hb1 ⊢
              have HB5 : Hid (Blk W5 w.heap.size 33 (stCells S).toArray) := by rw [← hW5]; exact Lib.hid (HB.out.alloc _)
              have g0 := hk1.cell 0
              have g1 := hk1.cell 1
              have g4 := hk1.cell 4
              have g5 := hk1.cell 5
              have g6 := hk1.cell 6
              have g7 := hk1.cell 7
              have g8 := hk1.cell 8
              have g9 := hk1.cell 9
              have gl := hk1.lt
              simp only [List.getElem?_toArray, List.getElem?_cons_zero, List.getElem?_cons_succ] at g0 g1 g4 g5 g6 g7 g8 g9
              clear hW5 hk1
              try simp only [List.append_eq, List.cons_append, List.nil_append]
              refine wp_region_mild (by kernel_rfl) (by kernel_rfl) ?_
              repeat (go_big_quiet_step ((first | (go_at_call 34; exact mild_of (r12Box_60 _)) | (go_at_call 33; exact mild_of (rins _ _ _ _ _ _ _ _ HIN.out)))))
              refine wpQuiet_nil ?_
              intro w6 hw'
              obtain ⟨⟨wq, k6⟩, hw''⟩ := hw'
              subst hw''
              go_wp2
              go_ret
              exact ⟨ret_bool HNO.out.symm, bTrans hb1 k6⟩
          have h6' : decide (8 < getP S 0 6) = false := decide_eq_false h6
          by_cases l7 : getP S 0 7 < 0
          · have l7' : decide (getP S 0 7 < 0) = true := decide_eq_true l7
            clear l7
            as_aux_lemma =>
              have HNO := Lib.hid (rightS_p S 0 (by decide) hp)
              clear hp
              go_wp2_with (first | (refine wpList_load_mid rfl 27 (.tmp 13) rfl w.heap.size 4 rfl [.int .i32 (getP S 0 0), .int .i32 (getP S 0 1), .int .i32 (getP S 0 2), .int .i32 (getP S 0 3), .int .i64 (getP S 0 4), .int .i64 (getP S 0 5), .int .i64 (getP S 0 6), .int .i64 (getP S 0 7), .int .i64 (getP S 0 8), .int .i64 (getP S 0 9)] _ (st_pl0 HB.out) Tryz.underlying27 rfl (by kernel_rfl) ?_))
              have hk1 := Blk.new wr 27 #[.int .i32 (getP S 0 0), .int .i32 (getP S 0 1), .int .i32 (getP S 0 2), .int .i32 (getP S 0 3), .int .i64 (getP S 0 4), .int .i64 (getP S 0 5), .int .i64 (getP S 0 6), .int .i64 (getP S 0 7), .int .i64 (getP S 0 8), .int .i64 (getP S 0 9)]
              have hb1 := bAlloc hbr (.cells #[.int .i32 (getP S 0 0), .int .i32 (getP S 0 1), .int .i32 (getP S 0 2), .int .i32 (getP S 0 3), .int .i64 (getP S 0 4), .int .i64 (getP S 0 5), .int .i64 (getP S 0 6), .int .i64 (getP S 0 7), .int .i64 (getP S 0 8), .int .i64 (getP S 0 9)] 27)
              obtain ⟨W5, hW5⟩ : ∃ W5, wr.alloc (.cells #[.int .i32 (getP S 0 0), .int .i32 (getP S 0 1), .int .i32 (getP S 0 2), .int .i32 (getP S 0 3), .int .i64 (getP S 0 4), .int .i64 (getP S 0 5), .int .i64 (getP S 0 6), .int .i64 (getP S 0 7), .int .i64 (getP S 0 8), .int .i64 (getP S 0 9)] 27) = W5 := ⟨_, rfl⟩
              rw [hW5] at hk1 hb1 ⊢
              have HB5 : Hid (Blk W5 w.heap.size 33 (stCells S).toArray) := by rw [← hW5]; exact Lib.hid (HB.out.alloc _)
              have g0 := hk1.cell 0
              have g1 := hk1.cell 1
              have g4 := hk1.cell 4
              have g5 := hk1.cell 5
              have g6 := hk1.cell 6
              have g7 := hk1.cell 7
              have g8 := hk1.cell 8
              have g9 := hk1.cell 9
              have gl := hk1.lt
              simp only [List.getElem?_toArray, List.getElem?_cons_zero, List.getElem?_cons_succ] at g0 g1 g4 g5 g6 g7 g8 g9
              clear hW5 hk1
              try simp only [List.append_eq, List.cons_append, List.nil_append]
              refine wp_region_mild (by kernel_rfl) (by kernel_rfl) ?_
              repeat (go_big_quiet_step ((first | (go_at_call 34; exact mild_of (r12Box_60 _)) | (go_at_call 33; exact mild_of (rins _ _ _ _ _ _ _ _ HIN.out)))))
              refine wpQuiet_nil ?_
              intro w6 hw'
              obtain ⟨⟨wq, k6⟩, hw''⟩ := hw'
              subst hw''
              go_wp2
              go_ret
              exact ⟨ret_bool HNO.out.symm, bTrans hb1 k6⟩
          have l7' : decide (getP S 0 7 < 0) = false := decide_eq_false l7
          by_cases h7 : 20 < getP S 0 7
          · have h7' : decide (20 < getP S 0 7) = true := decide_eq_true h7
            clear l7 h7
            as_aux_lemma =>
              have HNO := Lib.hid (rightS_p S 0 (by decide) hp)
              clear hp
              go_wp2_with (first | (refine wpList_load_mid rfl 27 (.tmp 13) rfl w.heap.size 4 rfl [.int .i32 (getP S 0 0), .int .i32 (getP S 0 1), .int .i32 (getP S 0 2), .int .i32 (getP S 0 3), .int .i64 (getP S 0 4), .int .i64 (getP S 0 5), .int .i64 (getP S 0 6), .int .i64 (getP S 0 7), .int .i64 (getP S 0 8), .int .i64 (getP S 0 9)] _ (st_pl0 HB.out) Tryz.underlying27 rfl (by kernel_rfl) ?_))
              have hk1 := Blk.new wr 27 #[.int .i32 (getP S 0 0), .int .i32 (getP S 0 1), .int .i32 (getP S 0 2), .int .i32 (getP S 0 3), .int .i64 (getP S 0 4), .int .i64 (getP S 0 5), .int .i64 (getP S 0 6), .int .i64 (getP S 0 7), .int .i64 (getP S 0 8), .int .i64 (getP S 0 9)]
              have hb1 := bAlloc hbr (.cells #[.int .i32 (getP S 0 0), .int .i32 (getP S 0 1), .int .i32 (getP S 0 2), .int .i32 (getP S 0 3), .int .i64 (getP S 0 4), .int .i64 (getP S 0 5), .int .i64 (getP S 0 6), .int .i64 (getP S 0 7), .int .i64 (getP S 0 8), .int .i64 (getP S 0 9)] 27)
              obtain ⟨W5, hW5⟩ : ∃ W5, wr.alloc (.cells #[.int .i32 (getP S 0 0), .int .i32 (getP S 0 1), .int .i32 (getP S 0 2), .int .i32 (getP S 0 3), .int .i64 (getP S 0 4), .int .i64 (getP S 0 5), .int .i64 (getP S 0 6), .int .i64 (getP S 0 7), .int .i64 (getP S 0 8), .int .i64 (getP S 0 9)] 27) = W5 := ⟨_, rfl⟩
              rw [hW5] at hk1 hb1 ⊢
              have HB5 : Hid (Blk W5 w.heap.size 33 (stCells S).toArray) := by rw [← hW5]; exact Lib.hid (HB.out.alloc _)
              have g0 := hk1.cell 0
              have g1 := hk1.cell 1
              have g4 := hk1.cell 4
              have g5 := hk1.cell 5
              have g6 := hk1.cell 6
              have g7 := hk1.cell 7
              have g8 := hk1.cell 8
              have g9 := hk1.cell 9
              have gl := hk1.lt
              simp only [List.getElem?_toArray, List.getElem?_cons_zero, List.getElem?_cons_succ] at g0 g1 g4 g5 g6 g7 g8 g9
              clear hW5 hk1
              try simp only [List.append_eq, List.cons_append, List.nil_append]
              refine wp_region_mild (by kernel_rfl) (by kernel_rfl) ?_
              repeat (go_big_quiet_step ((first | (go_at_call 34; exact mild_of (r12Box_60 _)) | (go_at_call 33; exact mild_of (rins _ _ _ _ _ _ _ _ HIN.out)))))
              refine wpQuiet_nil ?_
              intro w6 hw'
              obtain ⟨⟨wq, k6⟩, hw''⟩ := hw'
              subst hw''
              go_wp2
              go_ret
              exact ⟨ret_bool HNO.out.symm, bTrans hb1 k6⟩
          have h7' : decide (20 < getP S 0 7) = false := decide_eq_false h7
          by_cases l8 : getP S 0 8 < 0
          · have l8' : decide (getP S 0 8 < 0) = true := decide_eq_true l8
            clear l8
            as_aux_lemma =>
              have HNO := Lib.hid (rightS_p S 0 (by decide) hp)
              clear hp
              go_wp2_with (first | (refine wpList_load_mid rfl 27 (.tmp 13) rfl w.heap.size 4 rfl [.int .i32 (getP S 0 0), .int .i32 (getP S 0 1), .int .i32 (getP S 0 2), .int .i32 (getP S 0 3), .int .i64 (getP S 0 4), .int .i64 (getP S 0 5), .int .i64 (getP S 0 6), .int .i64 (getP S 0 7), .int .i64 (getP S 0 8), .int .i64 (getP S 0 9)] _ (st_pl0 HB.out) Tryz.underlying27 rfl (by kernel_rfl) ?_))
              have hk1 := Blk.new wr 27 #[.int .i32 (getP S 0 0), .int .i32 (getP S 0 1), .int .i32 (getP S 0 2), .int .i32 (getP S 0 3), .int .i64 (getP S 0 4), .int .i64 (getP S 0 5), .int .i64 (getP S 0 6), .int .i64 (getP S 0 7), .int .i64 (getP S 0 8), .int .i64 (getP S 0 9)]
              have hb1 := bAlloc hbr (.cells #[.int .i32 (getP S 0 0), .int .i32 (getP S 0 1), .int .i32 (getP S 0 2), .int .i32 (getP S 0 3), .int .i64 (getP S 0 4), .int .i64 (getP S 0 5), .int .i64 (getP S 0 6), .int .i64 (getP S 0 7), .int .i64 (getP S 0 8), .int .i64 (getP S 0 9)] 27)
              obtain ⟨W5, hW5⟩ : ∃ W5, wr.alloc (.cells #[.int .i32 (getP S 0 0), .int .i32 (getP S 0 1), .int .i32 (getP S 0 2), .int .i32 (getP S 0 3), .int .i64 (getP S 0 4), .int .i64 (getP S 0 5), .int .i64 (getP S 0 6), .int .i64 (getP S 0 7), .int .i64 (getP S 0 8), .int .i64 (getP S 0 9)] 27) = W5 := ⟨_, rfl⟩
              rw [hW5] at hk1 hb1 ⊢
              have HB5 : Hid (Blk W5 w.heap.size 33 (stCells S).toArray) := by rw [← hW5]; exact Lib.hid (HB.out.alloc _)
              have g0 := hk1.cell 0
              have g1 := hk1.cell 1
              have g4 := hk1.cell 4
              have g5 := hk1.cell 5
              have g6 := hk1.cell 6
              have g7 := hk1.cell 7
              have g8 := hk1.cell 8
              have g9 := hk1.cell 9
              have gl := hk1.lt
              simp only [List.getElem?_toArray, List.getElem?_cons_zero, List.getElem?_cons_succ] at g0 g1 g4 g5 g6 g7 g8 g9
              clear hW5 hk1
              try simp only [List.append_eq, List.cons_append, List.nil_append]
              refine wp_region_mild (by kernel_rfl) (by kernel_rfl) ?_
              repeat (go_big_quiet_step ((first | (go_at_call 34; exact mild_of (r12Box_60 _)) | (go_at_call 33; exact mild_of (rins _ _ _ _ _ _ _ _ HIN.out)))))
              refine wpQuiet_nil ?_
              intro w6 hw'
              obtain ⟨⟨wq, k6⟩, hw''⟩ := hw'
              subst hw''
              go_wp2
              go_ret
              exact ⟨ret_bool HNO.out.symm, bTrans hb1 k6⟩
          have l8' : decide (getP S 0 8 < 0) = false := decide_eq_false l8
          by_cases h8 : 30 < getP S 0 8
          · have h8' : decide (30 < getP S 0 8) = true := decide_eq_true h8
            clear l8 h8
            as_aux_lemma =>
              have HNO := Lib.hid (rightS_p S 0 (by decide) hp)
              clear hp
              go_wp2_with (first | (refine wpList_load_mid rfl 27 (.tmp 13) rfl w.heap.size 4 rfl [.int .i32 (getP S 0 0), .int .i32 (getP S 0 1), .int .i32 (getP S 0 2), .int .i32 (getP S 0 3), .int .i64 (getP S 0 4), .int .i64 (getP S 0 5), .int .i64 (getP S 0 6), .int .i64 (getP S 0 7), .int .i64 (getP S 0 8), .int .i64 (getP S 0 9)] _ (st_pl0 HB.out) Tryz.underlying27 rfl (by kernel_rfl) ?_))
              have hk1 := Blk.new wr 27 #[.int .i32 (getP S 0 0), .int .i32 (getP S 0 1), .int .i32 (getP S 0 2), .int .i32 (getP S 0 3), .int .i64 (getP S 0 4), .int .i64 (getP S 0 5), .int .i64 (getP S 0 6), .int .i64 (getP S 0 7), .int .i64 (getP S 0 8), .int .i64 (getP S 0 9)]
              have hb1 := bAlloc hbr (.cells #[.int .i32 (getP S 0 0), .int .i32 (getP S 0 1), .int .i32 (getP S 0 2), .int .i32 (getP S 0 3), .int .i64 (getP S 0 4), .int .i64 (getP S 0 5), .int .i64 (getP S 0 6), .int .i64 (getP S 0 7), .int .i64 (getP S 0 8), .int .i64 (getP S 0 9)] 27)
              obtain ⟨W5, hW5⟩ : ∃ W5, wr.alloc (.cells #[.int .i32 (getP S 0 0), .int .i32 (getP S 0 1), .int .i32 (getP S 0 2), .int .i32 (getP S 0 3), .int .i64 (getP S 0 4), .int .i64 (getP S 0 5), .int .i64 (getP S 0 6), .int .i64 (getP S 0 7), .int .i64 (getP S 0 8), .int .i64 (getP S 0 9)] 27) = W5 := ⟨_, rfl⟩
              rw [hW5] at hk1 hb1 ⊢
              have HB5 : Hid (Blk W5 w.heap.size 33 (stCells S).toArray) := by rw [← hW5]; exact Lib.hid (HB.out.alloc _)
              have g0 := hk1.cell 0
              have g1 := hk1.cell 1
              have g4 := hk1.cell 4
              have g5 := hk1.cell 5
              have g6 := hk1.cell 6
              have g7 := hk1.cell 7
              have g8 := hk1.cell 8
              have g9 := hk1.cell 9
              have gl := hk1.lt
              simp only [List.getElem?_toArray, List.getElem?_cons_zero, List.getElem?_cons_succ] at g0 g1 g4 g5 g6 g7 g8 g9
              clear hW5 hk1
              try simp only [List.append_eq, List.cons_append, List.nil_append]
              refine wp_region_mild (by kernel_rfl) (by kernel_rfl) ?_
              repeat (go_big_quiet_step ((first | (go_at_call 34; exact mild_of (r12Box_60 _)) | (go_at_call 33; exact mild_of (rins _ _ _ _ _ _ _ _ HIN.out)))))
              refine wpQuiet_nil ?_
              intro w6 hw'
              obtain ⟨⟨wq, k6⟩, hw''⟩ := hw'
              subst hw''
              go_wp2
              go_ret
              exact ⟨ret_bool HNO.out.symm, bTrans hb1 k6⟩
          have h8' : decide (30 < getP S 0 8) = false := decide_eq_false h8
          by_cases l9 : getP S 0 9 < 0
          · have l9' : decide (getP S 0 9 < 0) = true := decide_eq_true l9
            clear l9
            as_aux_lemma =>
              have HNO := Lib.hid (rightS_p S 0 (by decide) hp)
              clear hp
              go_wp2_with (first | (refine wpList_load_mid rfl 27 (.tmp 13) rfl w.heap.size 4 rfl [.int .i32 (getP S 0 0), .int .i32 (getP S 0 1), .int .i32 (getP S 0 2), .int .i32 (getP S 0 3), .int .i64 (getP S 0 4), .int .i64 (getP S 0 5), .int .i64 (getP S 0 6), .int .i64 (getP S 0 7), .int .i64 (getP S 0 8), .int .i64 (getP S 0 9)] _ (st_pl0 HB.out) Tryz.underlying27 rfl (by kernel_rfl) ?_))
              have hk1 := Blk.new wr 27 #[.int .i32 (getP S 0 0), .int .i32 (getP S 0 1), .int .i32 (getP S 0 2), .int .i32 (getP S 0 3), .int .i64 (getP S 0 4), .int .i64 (getP S 0 5), .int .i64 (getP S 0 6), .int .i64 (getP S 0 7), .int .i64 (getP S 0 8), .int .i64 (getP S 0 9)]
              have hb1 := bAlloc hbr (.cells #[.int .i32 (getP S 0 0), .int .i32 (getP S 0 1), .int .i32 (getP S 0 2), .int .i32 (getP S 0 3), .int .i64 (getP S 0 4), .int .i64 (getP S 0 5), .int .i64 (getP S 0 6), .int .i64 (getP S 0 7), .int .i64 (getP S 0 8), .int .i64 (getP S 0 9)] 27)
              obtain ⟨W5, hW5⟩ : ∃ W5, wr.alloc (.cells #[.int .i32 (getP S 0 0), .int .i32 (getP S 0 1), .int .i32 (getP S 0 2), .int .i32 (getP S 0 3), .int .i64 (getP S 0 4), .int .i64 (getP S 0 5), .int .i64 (getP S 0 6), .int .i64 (getP S 0 7), .int .i64 (getP S 0 8), .int .i64 (getP S 0 9)] 27) = W5 := ⟨_, rfl⟩
              rw [hW5] at hk1 hb1 ⊢
              have HB5 : Hid (Blk W5 w.heap.size 33 (stCells S).toArray) := by rw [← hW5]; exact Lib.hid (HB.out.alloc _)
              have g0 := hk1.cell 0
              have g1 := hk1.cell 1
              have g4 := hk1.cell 4
              have g5 := hk1.cell 5
              have g6 := hk1.cell 6
              have g7 := hk1.cell 7
              have g8 := hk1.cell 8
              have g9 := hk1.cell 9
              have gl := hk1.lt
              simp only [List.getElem?_toArray, List.getElem?_cons_zero, List.getElem?_cons_succ] at g0 g1 g4 g5 g6 g7 g8 g9
              clear hW5 hk1
              try simp only [List.append_eq, List.cons_append, List.nil_append]
              refine wp_region_mild (by kernel_rfl) (by kernel_rfl) ?_
              repeat (go_big_quiet_step ((first | (go_at_call 34; exact mild_of (r12Box_60 _)) | (go_at_call 33; exact mild_of (rins _ _ _ _ _ _ _ _ HIN.out)))))
              refine wpQuiet_nil ?_
              intro w6 hw'
              obtain ⟨⟨wq, k6⟩, hw''⟩ := hw'
              subst hw''
              go_wp2
              go_ret
              exact ⟨ret_bool HNO.out.symm, bTrans hb1 k6⟩
          have l9' : decide (getP S 0 9 < 0) = false := decide_eq_false l9
          by_cases h9 : 2 < getP S 0 9
          · have h9' : decide (2 < getP S 0 9) = true := decide_eq_true h9
            clear l9 h9
            as_aux_lemma =>
              have HNO := Lib.hid (rightS_p S 0 (by decide) hp)
              clear hp
              go_wp2_with (first | (refine wpList_load_mid rfl 27 (.tmp 13) rfl w.heap.size 4 rfl [.int .i32 (getP S 0 0), .int .i32 (getP S 0 1), .int .i32 (getP S 0 2), .int .i32 (getP S 0 3), .int .i64 (getP S 0 4), .int .i64 (getP S 0 5), .int .i64 (getP S 0 6), .int .i64 (getP S 0 7), .int .i64 (getP S 0 8), .int .i64 (getP S 0 9)] _ (st_pl0 HB.out) Tryz.underlying27 rfl (by kernel_rfl) ?_))
              have hk1 := Blk.new wr 27 #[.int .i32 (getP S 0 0), .int .i32 (getP S 0 1), .int .i32 (getP S 0 2), .int .i32 (getP S 0 3), .int .i64 (getP S 0 4), .int .i64 (getP S 0 5), .int .i64 (getP S 0 6), .int .i64 (getP S 0 7), .int .i64 (getP S 0 8), .int .i64 (getP S 0 9)]
              have hb1 := bAlloc hbr (.cells #[.int .i32 (getP S 0 0), .int .i32 (getP S 0 1), .int .i32 (getP S 0 2), .int .i32 (getP S 0 3), .int .i64 (getP S 0 4), .int .i64 (getP S 0 5), .int .i64 (getP S 0 6), .int .i64 (getP S 0 7), .int .i64 (getP S 0 8), .int .i64 (getP S 0 9)] 27)
              obtain ⟨W5, hW5⟩ : ∃ W5, wr.alloc (.cells #[.int .i32 (getP S 0 0), .int .i32 (getP S 0 1), .int .i32 (getP S 0 2), .int .i32 (getP S 0 3), .int .i64 (getP S 0 4), .int .i64 (getP S 0 5), .int .i64 (getP S 0 6), .int .i64 (getP S 0 7), .int .i64 (getP S 0 8), .int .i64 (getP S 0 9)] 27) = W5 := ⟨_, rfl⟩
              rw [hW5] at hk1 hb1 ⊢
              have HB5 : Hid (Blk W5 w.heap.size 33 (stCells S).toArray) := by rw [← hW5]; exact Lib.hid (HB.out.alloc _)
              have g0 := hk1.cell 0
              have g1 := hk1.cell 1
              have g4 := hk1.cell 4
              have g5 := hk1.cell 5
              have g6 := hk1.cell 6
              have g7 := hk1.cell 7
              have g8 := hk1.cell 8
              have g9 := hk1.cell 9
              have gl := hk1.lt
              simp only [List.getElem?_toArray, List.getElem?_cons_zero, List.getElem?_cons_succ] at g0 g1 g4 g5 g6 g7 g8 g9
              clear hW5 hk1
              try simp only [List.append_eq, List.cons_append, List.nil_append]
              refine wp_region_mild (by kernel_rfl) (by kernel_rfl) ?_
              repeat (go_big_quiet_step ((first | (go_at_call 34; exact mild_of (r12Box_60 _)) | (go_at_call 33; exact mild_of (rins _ _ _ _ _ _ _ _ HIN.out)))))
              refine wpQuiet_nil ?_
              intro w6 hw'
              obtain ⟨⟨wq, k6⟩, hw''⟩ := hw'
              subst hw''
              go_wp2
              go_ret
              exact ⟨ret_bool HNO.out.symm, bTrans hb1 k6⟩
          have h9' : decide (2 < getP S 0 9) = false := decide_eq_false h9
          cases hin : insideB (-3932160) (-3932160) 3932160 3932160 (getP S 0 0) (getP S 0 1)
          · have HIN := Lib.hid hin
            clear hin
            as_aux_lemma =>
              have HNO := Lib.hid (rightS_p S 0 (by decide) hp)
              clear hp
              go_wp2_with (first | (refine wpList_load_mid rfl 27 (.tmp 13) rfl w.heap.size 4 rfl [.int .i32 (getP S 0 0), .int .i32 (getP S 0 1), .int .i32 (getP S 0 2), .int .i32 (getP S 0 3), .int .i64 (getP S 0 4), .int .i64 (getP S 0 5), .int .i64 (getP S 0 6), .int .i64 (getP S 0 7), .int .i64 (getP S 0 8), .int .i64 (getP S 0 9)] _ (st_pl0 HB.out) Tryz.underlying27 rfl (by kernel_rfl) ?_))
              have hk1 := Blk.new wr 27 #[.int .i32 (getP S 0 0), .int .i32 (getP S 0 1), .int .i32 (getP S 0 2), .int .i32 (getP S 0 3), .int .i64 (getP S 0 4), .int .i64 (getP S 0 5), .int .i64 (getP S 0 6), .int .i64 (getP S 0 7), .int .i64 (getP S 0 8), .int .i64 (getP S 0 9)]
              have hb1 := bAlloc hbr (.cells #[.int .i32 (getP S 0 0), .int .i32 (getP S 0 1), .int .i32 (getP S 0 2), .int .i32 (getP S 0 3), .int .i64 (getP S 0 4), .int .i64 (getP S 0 5), .int .i64 (getP S 0 6), .int .i64 (getP S 0 7), .int .i64 (getP S 0 8), .int .i64 (getP S 0 9)] 27)
              obtain ⟨W5, hW5⟩ : ∃ W5, wr.alloc (.cells #[.int .i32 (getP S 0 0), .int .i32 (getP S 0 1), .int .i32 (getP S 0 2), .int .i32 (getP S 0 3), .int .i64 (getP S 0 4), .int .i64 (getP S 0 5), .int .i64 (getP S 0 6), .int .i64 (getP S 0 7), .int .i64 (getP S 0 8), .int .i64 (getP S 0 9)] 27) = W5 := ⟨_, rfl⟩
              rw [hW5] at hk1 hb1 ⊢
              have HB5 : Hid (Blk W5 w.heap.size 33 (stCells S).toArray) := by rw [← hW5]; exact Lib.hid (HB.out.alloc _)
              have g0 := hk1.cell 0
              have g1 := hk1.cell 1
              have g4 := hk1.cell 4
              have g5 := hk1.cell 5
              have g6 := hk1.cell 6
              have g7 := hk1.cell 7
              have g8 := hk1.cell 8
              have g9 := hk1.cell 9
              have gl := hk1.lt
              simp only [List.getElem?_toArray, List.getElem?_cons_zero, List.getElem?_cons_succ] at g0 g1 g4 g5 g6 g7 g8 g9
              clear hW5 hk1
              try simp only [List.append_eq, List.cons_append, List.nil_append]
              refine wp_region_mild (by kernel_rfl) (by kernel_rfl) ?_
              repeat (go_big_quiet_step ((first | (go_at_call 34; exact mild_of (r12Box_60 _)) | (go_at_call 33; exact mild_of (rins _ _ _ _ _ _ _ _ HIN.out)))))
              refine wpQuiet_nil ?_
              intro w6 hw'
              obtain ⟨⟨wq, k6⟩, hw''⟩ := hw'
              subst hw''
              go_wp2
              go_ret
              exact ⟨ret_bool HNO.out.symm, bTrans hb1 k6⟩
          have HIN := Lib.hid hin
          have hlast : (!decide (0 < getP S 0 5) == (getP S 0 8 == 0)) = true := by
            cases hq : (decide (0 < getP S 0 5) == (getP S 0 8 == 0))
            · first | exact beq_flip_t hq | rfl
            · exfalso
              have := (playerB_iff' (getP S 0)).2 ⟨by omega, by omega, by omega, by omega, by omega, by omega, hin, hq⟩
              rw [this] at hp
              cases hp
          clear hin
          as_aux_lemma =>
            have HNO := Lib.hid (rightS_p S 0 (by decide) hp)
            clear hp
            go_wp2_with (first | (refine wpList_load_mid rfl 27 (.tmp 13) rfl w.heap.size 4 rfl [.int .i32 (getP S 0 0), .int .i32 (getP S 0 1), .int .i32 (getP S 0 2), .int .i32 (getP S 0 3), .int .i64 (getP S 0 4), .int .i64 (getP S 0 5), .int .i64 (getP S 0 6), .int .i64 (getP S 0 7), .int .i64 (getP S 0 8), .int .i64 (getP S 0 9)] _ (st_pl0 HB.out) Tryz.underlying27 rfl (by kernel_rfl) ?_))
            have hk1 := Blk.new wr 27 #[.int .i32 (getP S 0 0), .int .i32 (getP S 0 1), .int .i32 (getP S 0 2), .int .i32 (getP S 0 3), .int .i64 (getP S 0 4), .int .i64 (getP S 0 5), .int .i64 (getP S 0 6), .int .i64 (getP S 0 7), .int .i64 (getP S 0 8), .int .i64 (getP S 0 9)]
            have hb1 := bAlloc hbr (.cells #[.int .i32 (getP S 0 0), .int .i32 (getP S 0 1), .int .i32 (getP S 0 2), .int .i32 (getP S 0 3), .int .i64 (getP S 0 4), .int .i64 (getP S 0 5), .int .i64 (getP S 0 6), .int .i64 (getP S 0 7), .int .i64 (getP S 0 8), .int .i64 (getP S 0 9)] 27)
            obtain ⟨W5, hW5⟩ : ∃ W5, wr.alloc (.cells #[.int .i32 (getP S 0 0), .int .i32 (getP S 0 1), .int .i32 (getP S 0 2), .int .i32 (getP S 0 3), .int .i64 (getP S 0 4), .int .i64 (getP S 0 5), .int .i64 (getP S 0 6), .int .i64 (getP S 0 7), .int .i64 (getP S 0 8), .int .i64 (getP S 0 9)] 27) = W5 := ⟨_, rfl⟩
            rw [hW5] at hk1 hb1 ⊢
            have HB5 : Hid (Blk W5 w.heap.size 33 (stCells S).toArray) := by rw [← hW5]; exact Lib.hid (HB.out.alloc _)
            have g0 := hk1.cell 0
            have g1 := hk1.cell 1
            have g4 := hk1.cell 4
            have g5 := hk1.cell 5
            have g6 := hk1.cell 6
            have g7 := hk1.cell 7
            have g8 := hk1.cell 8
            have g9 := hk1.cell 9
            have gl := hk1.lt
            simp only [List.getElem?_toArray, List.getElem?_cons_zero, List.getElem?_cons_succ] at g0 g1 g4 g5 g6 g7 g8 g9
            clear hW5 hk1
            try simp only [List.append_eq, List.cons_append, List.nil_append]
            refine wp_region_mild (by kernel_rfl) (by kernel_rfl) ?_
            repeat (go_big_quiet_step ((first | (go_at_call 34; exact mild_of (r12Box_60 _)) | (go_at_call 33; exact mild_of (rins _ _ _ _ _ _ _ _ HIN.out)))))
            refine wpQuiet_nil ?_
            intro w6 hw'
            obtain ⟨⟨wq, k6⟩, hw''⟩ := hw'
            subst hw''
            go_wp2
            go_ret
            exact ⟨ret_bool HNO.out.symm, bTrans hb1 k6⟩
        · have HP := Lib.hid hp
          obtain ⟨⟨a1, a2⟩, ⟨b1, b2⟩, ⟨c1, c2⟩, ⟨d1, d2⟩, ⟨e1, e2⟩, ⟨f1, f2⟩, hin, hl⟩ := (playerB_iff' _).1 hp
          have HIN := Lib.hid hin
          have hlast : (!decide (0 < getP S 0 5) == (getP S 0 8 == 0)) = false := beq_flip_f hl
          have l4' : decide (getP S 0 4 < 0) = false := decide_eq_false (by omega)
          have h4' : decide (65535 < getP S 0 4) = false := decide_eq_false (by omega)
          have l5' : decide (getP S 0 5 < 0) = false := decide_eq_false (by omega)
          have h5' : decide (3 < getP S 0 5) = false := decide_eq_false (by omega)
          have l6' : decide (getP S 0 6 < 0) = false := decide_eq_false (by omega)
          have h6' : decide (8 < getP S 0 6) = false := decide_eq_false (by omega)
          have l7' : decide (getP S 0 7 < 0) = false := decide_eq_false (by omega)
          have h7' : decide (20 < getP S 0 7) = false := decide_eq_false (by omega)
          have l8' : decide (getP S 0 8 < 0) = false := decide_eq_false (by omega)
          have h8' : decide (30 < getP S 0 8) = false := decide_eq_false (by omega)
          have l9' : decide (getP S 0 9 < 0) = false := decide_eq_false (by omega)
          have h9' : decide (2 < getP S 0 9) = false := decide_eq_false (by omega)
          clear hp hin hl
          go_wp2_with (first | (refine wpList_load_mid rfl 27 (.tmp 13) rfl w.heap.size 4 rfl [.int .i32 (getP S 0 0), .int .i32 (getP S 0 1), .int .i32 (getP S 0 2), .int .i32 (getP S 0 3), .int .i64 (getP S 0 4), .int .i64 (getP S 0 5), .int .i64 (getP S 0 6), .int .i64 (getP S 0 7), .int .i64 (getP S 0 8), .int .i64 (getP S 0 9)] _ (st_pl0 HB.out) Tryz.underlying27 rfl (by kernel_rfl) ?_))
          have hk1 := Blk.new wr 27 #[.int .i32 (getP S 0 0), .int .i32 (getP S 0 1), .int .i32 (getP S 0 2), .int .i32 (getP S 0 3), .int .i64 (getP S 0 4), .int .i64 (getP S 0 5), .int .i64 (getP S 0 6), .int .i64 (getP S 0 7), .int .i64 (getP S 0 8), .int .i64 (getP S 0 9)]
          have hb1 := bAlloc hbr (.cells #[.int .i32 (getP S 0 0), .int .i32 (getP S 0 1), .int .i32 (getP S 0 2), .int .i32 (getP S 0 3), .int .i64 (getP S 0 4), .int .i64 (getP S 0 5), .int .i64 (getP S 0 6), .int .i64 (getP S 0 7), .int .i64 (getP S 0 8), .int .i64 (getP S 0 9)] 27)
          obtain ⟨W5, hW5⟩ : ∃ W5, wr.alloc (.cells #[.int .i32 (getP S 0 0), .int .i32 (getP S 0 1), .int .i32 (getP S 0 2), .int .i32 (getP S 0 3), .int .i64 (getP S 0 4), .int .i64 (getP S 0 5), .int .i64 (getP S 0 6), .int .i64 (getP S 0 7), .int .i64 (getP S 0 8), .int .i64 (getP S 0 9)] 27) = W5 := ⟨_, rfl⟩
          rw [hW5] at hk1 hb1 ⊢
          have HB5 : Hid (Blk W5 w.heap.size 33 (stCells S).toArray) := by rw [← hW5]; exact Lib.hid (HB.out.alloc _)
          have g0 := hk1.cell 0
          have g1 := hk1.cell 1
          have g4 := hk1.cell 4
          have g5 := hk1.cell 5
          have g6 := hk1.cell 6
          have g7 := hk1.cell 7
          have g8 := hk1.cell 8
          have g9 := hk1.cell 9
          have gl := hk1.lt
          simp only [List.getElem?_toArray, List.getElem?_cons_zero, List.getElem?_cons_succ] at g0 g1 g4 g5 g6 g7 g8 g9
          clear hW5 hk1
          try simp only [List.append_eq, List.cons_append, List.nil_append]
          refine wp_region_mild (by kernel_rfl) (by kernel_rfl) ?_
          repeat (go_big_quiet_step ((first | (go_at_call 34; exact mild_of (r12Box_60 _)) | (go_at_call 33; exact mild_of (rins _ _ _ _ _ _ _ _ HIN.out)))))
          refine wpQuiet_nil ?_
          intro w6 hw'
          obtain ⟨⟨wq, k6⟩, hw''⟩ := hw'
          subst hw''
          have HB6 := Lib.hid (HB5.out.on k6)
          have hb6 := bTrans hb1 k6
          clear k6 hb1 g0 g1 g4 g5 g6 g7 g8 g9
          go_wp2
          go_roundw
          case rel => exact ⟨1, by omega, rfl, Lib.hid (fun j hj => (by
            rcases Nat.lt_or_ge j 0 with h | h
            · exact HALL.out j h
            · obtain rfl : j = 0 := by omega
              exact HP.out)), HB6, hb6⟩
          case measure => simp [intOf] <;> omega
      · cases hp : playerB (getP S 1)
        ·
          by_cases l4 : getP S 1 4 < 0
          · have l4' : decide (getP S 1 4 < 0) = true := decide_eq_true l4
            clear l4
            as_aux_lemma =>
              have HNO := Lib.hid (rightS_p S 1 (by decide) hp)
              clear hp
              go_wp2_with (first | (refine wpList_load_mid rfl 27 (.tmp 13) rfl w.heap.size 14 rfl [.int .i32 (getP S 1 0), .int .i32 (getP S 1 1), .int .i32 (getP S 1 2), .int .i32 (getP S 1 3), .int .i64 (getP S 1 4), .int .i64 (getP S 1 5), .int .i64 (getP S 1 6), .int .i64 (getP S 1 7), .int .i64 (getP S 1 8), .int .i64 (getP S 1 9)] _ (st_pl1 HB.out) Tryz.underlying27 rfl (by kernel_rfl) ?_))
              have hk1 := Blk.new wr 27 #[.int .i32 (getP S 1 0), .int .i32 (getP S 1 1), .int .i32 (getP S 1 2), .int .i32 (getP S 1 3), .int .i64 (getP S 1 4), .int .i64 (getP S 1 5), .int .i64 (getP S 1 6), .int .i64 (getP S 1 7), .int .i64 (getP S 1 8), .int .i64 (getP S 1 9)]
              have hb1 := bAlloc hbr (.cells #[.int .i32 (getP S 1 0), .int .i32 (getP S 1 1), .int .i32 (getP S 1 2), .int .i32 (getP S 1 3), .int .i64 (getP S 1 4), .int .i64 (getP S 1 5), .int .i64 (getP S 1 6), .int .i64 (getP S 1 7), .int .i64 (getP S 1 8), .int .i64 (getP S 1 9)] 27)
              obtain ⟨W5, hW5⟩ : ∃ W5, wr.alloc (.cells #[.int .i32 (getP S 1 0), .int .i32 (getP S 1 1), .int .i32 (getP S 1 2), .int .i32 (getP S 1 3), .int .i64 (getP S 1 4), .int .i64 (getP S 1 5), .int .i64 (getP S 1 6), .int .i64 (getP S 1 7), .int .i64 (getP S 1 8), .int .i64 (getP S 1 9)] 27) = W5 := ⟨_, rfl⟩
              rw [hW5] at hk1 hb1 ⊢
              have HB5 : Hid (Blk W5 w.heap.size 33 (stCells S).toArray) := by rw [← hW5]; exact Lib.hid (HB.out.alloc _)
              have g0 := hk1.cell 0
              have g1 := hk1.cell 1
              have g4 := hk1.cell 4
              have g5 := hk1.cell 5
              have g6 := hk1.cell 6
              have g7 := hk1.cell 7
              have g8 := hk1.cell 8
              have g9 := hk1.cell 9
              have gl := hk1.lt
              simp only [List.getElem?_toArray, List.getElem?_cons_zero, List.getElem?_cons_succ] at g0 g1 g4 g5 g6 g7 g8 g9
              clear hW5 hk1
              try simp only [List.append_eq, List.cons_append, List.nil_append]
              refine wp_region_mild (by kernel_rfl) (by kernel_rfl) ?_
              repeat (go_big_quiet_step ((first | (go_at_call 34; exact mild_of (r12Box_60 _)) | (go_at_call 33; exact mild_of (rins _ _ _ _ _ _ _ _ HIN.out)))))
              refine wpQuiet_nil ?_
              intro w6 hw'
              obtain ⟨⟨wq, k6⟩, hw''⟩ := hw'
              subst hw''
              go_wp2
              go_ret
              exact ⟨ret_bool HNO.out.symm, bTrans hb1 k6⟩
          have l4' : decide (getP S 1 4 < 0) = false := decide_eq_false l4
          by_cases h4 : 65535 < getP S 1 4
          · have h4' : decide (65535 < getP S 1 4) = true := decide_eq_true h4
            clear l4 h4
            as_aux_lemma =>
              have HNO := Lib.hid (rightS_p S 1 (by decide) hp)
              clear hp
              go_wp2_with (first | (refine wpList_load_mid rfl 27 (.tmp 13) rfl w.heap.size 14 rfl [.int .i32 (getP S 1 0), .int .i32 (getP S 1 1), .int .i32 (getP S 1 2), .int .i32 (getP S 1 3), .int .i64 (getP S 1 4), .int .i64 (getP S 1 5), .int .i64 (getP S 1 6), .int .i64 (getP S 1 7), .int .i64 (getP S 1 8), .int .i64 (getP S 1 9)] _ (st_pl1 HB.out) Tryz.underlying27 rfl (by kernel_rfl) ?_))
              have hk1 := Blk.new wr 27 #[.int .i32 (getP S 1 0), .int .i32 (getP S 1 1), .int .i32 (getP S 1 2), .int .i32 (getP S 1 3), .int .i64 (getP S 1 4), .int .i64 (getP S 1 5), .int .i64 (getP S 1 6), .int .i64 (getP S 1 7), .int .i64 (getP S 1 8), .int .i64 (getP S 1 9)]
              have hb1 := bAlloc hbr (.cells #[.int .i32 (getP S 1 0), .int .i32 (getP S 1 1), .int .i32 (getP S 1 2), .int .i32 (getP S 1 3), .int .i64 (getP S 1 4), .int .i64 (getP S 1 5), .int .i64 (getP S 1 6), .int .i64 (getP S 1 7), .int .i64 (getP S 1 8), .int .i64 (getP S 1 9)] 27)
              obtain ⟨W5, hW5⟩ : ∃ W5, wr.alloc (.cells #[.int .i32 (getP S 1 0), .int .i32 (getP S 1 1), .int .i32 (getP S 1 2), .int .i32 (getP S 1 3), .int .i64 (getP S 1 4), .int .i64 (getP S 1 5), .int .i64 (getP S 1 6), .int .i64 (getP S 1 7), .int .i64 (getP S 1 8), .int .i64 (getP S 1 9)] 27) = W5 := ⟨_, rfl⟩
              rw [hW5] at hk1 hb1 ⊢
              have HB5 : Hid (Blk W5 w.heap.size 33 (stCells S).toArray) := by rw [← hW5]; exact Lib.hid (HB.out.alloc _)
              have g0 := hk1.cell 0
              have g1 := hk1.cell 1
              have g4 := hk1.cell 4
              have g5 := hk1.cell 5
              have g6 := hk1.cell 6
              have g7 := hk1.cell 7
              have g8 := hk1.cell 8
              have g9 := hk1.cell 9
              have gl := hk1.lt
              simp only [List.getElem?_toArray, List.getElem?_cons_zero, List.getElem?_cons_succ] at g0 g1 g4 g5 g6 g7 g8 g9
              clear hW5 hk1
              try simp only [List.append_eq, List.cons_append, List.nil_append]
              refine wp_region_mild (by kernel_rfl) (by kernel_rfl) ?_
              repeat (go_big_quiet_step ((first | (go_at_call 34; exact mild_of (r12Box_60 _)) | (go_at_call 33; exact mild_of (rins _ _ _ _ _ _ _ _ HIN.out)))))
              refine wpQuiet_nil ?_
              intro w6 hw'
              obtain ⟨⟨wq, k6⟩, hw''⟩ := hw'
              subst hw''
              go_wp2
              go_ret
              exact ⟨ret_bool HNO.out.symm, bTrans hb1 k6⟩
          have h4' : decide (65535 < getP S 1 4) = false := decide_eq_false h4
          by_cases l5 : getP S 1 5 < 0
          · have l5' : decide (getP S 1 5 < 0) = true := decide_eq_true l5
            clear l5
            as_aux_lemma =>
              have HNO := Lib.hid (rightS_p S 1 (by decide) hp)
              clear hp
              go_wp2_with (first | (refine wpList_load_mid rfl 27 (.tmp 13) rfl w.heap.size 14 rfl [.int .i32 (getP S 1 0), .int .i32 (getP S 1 1), .int .i32 (getP S 1 2), .int .i32 (getP S 1 3), .int .i64 (getP S 1 4), .int .i64 (getP S 1 5), .int .i64 (getP S 1 6), .int .i64 (getP S 1 7), .int .i64 (getP S 1 8), .int .i64 (getP S 1 9)] _ (st_pl1 HB.out) Tryz.underlying27 rfl (by kernel_rfl) ?_))
              have hk1 := Blk.new wr 27 #[.int .i32 (getP S 1 0), .int .i32 (getP S 1 1), .int .i32 (getP S 1 2), .int .i32 (getP S 1 3), .int .i64 (getP S 1 4), .int .i64 (getP S 1 5), .int .i64 (getP S 1 6), .int .i64 (getP S 1 7), .int .i64 (getP S 1 8), .int .i64 (getP S 1 9)]
              have hb1 := bAlloc hbr (.cells #[.int .i32 (getP S 1 0), .int .i32 (getP S 1 1), .int .i32 (getP S 1 2), .int .i32 (getP S 1 3), .int .i64 (getP S 1 4), .int .i64 (getP S 1 5), .int .i64 (getP S 1 6), .int .i64 (getP S 1 7), .int .i64 (getP S 1 8), .int .i64 (getP S 1 9)] 27)
              obtain ⟨W5, hW5⟩ : ∃ W5, wr.alloc (.cells #[.int .i32 (getP S 1 0), .int .i32 (getP S 1 1), .int .i32 (getP S 1 2), .int .i32 (getP S 1 3), .int .i64 (getP S 1 4), .int .i64 (getP S 1 5), .int .i64 (getP S 1 6), .int .i64 (getP S 1 7), .int .i64 (getP S 1 8), .int .i64 (getP S 1 9)] 27) = W5 := ⟨_, rfl⟩
              rw [hW5] at hk1 hb1 ⊢
              have HB5 : Hid (Blk W5 w.heap.size 33 (stCells S).toArray) := by rw [← hW5]; exact Lib.hid (HB.out.alloc _)
              have g0 := hk1.cell 0
              have g1 := hk1.cell 1
              have g4 := hk1.cell 4
              have g5 := hk1.cell 5
              have g6 := hk1.cell 6
              have g7 := hk1.cell 7
              have g8 := hk1.cell 8
              have g9 := hk1.cell 9
              have gl := hk1.lt
              simp only [List.getElem?_toArray, List.getElem?_cons_zero, List.getElem?_cons_succ] at g0 g1 g4 g5 g6 g7 g8 g9
              clear hW5 hk1
              try simp only [List.append_eq, List.cons_append, List.nil_append]
              refine wp_region_mild (by kernel_rfl) (by kernel_rfl) ?_
              repeat (go_big_quiet_step ((first | (go_at_call 34; exact mild_of (r12Box_60 _)) | (go_at_call 33; exact mild_of (rins _ _ _ _ _ _ _ _ HIN.out)))))
              refine wpQuiet_nil ?_
              intro w6 hw'
              obtain ⟨⟨wq, k6⟩, hw''⟩ := hw'
              subst hw''
              go_wp2
              go_ret
              exact ⟨ret_bool HNO.out.symm, bTrans hb1 k6⟩
          have l5' : decide (getP S 1 5 < 0) = false := decide_eq_false l5
          by_cases h5 : 3 < getP S 1 5
          · have h5' : decide (3 < getP S 1 5) = true := decide_eq_true h5
            clear l5 h5
            as_aux_lemma =>
              have HNO := Lib.hid (rightS_p S 1 (by decide) hp)
              clear hp
              go_wp2_with (first | (refine wpList_load_mid rfl 27 (.tmp 13) rfl w.heap.size 14 rfl [.int .i32 (getP S 1 0), .int .i32 (getP S 1 1), .int .i32 (getP S 1 2), .int .i32 (getP S 1 3), .int .i64 (getP S 1 4), .int .i64 (getP S 1 5), .int .i64 (getP S 1 6), .int .i64 (getP S 1 7), .int .i64 (getP S 1 8), .int .i64 (getP S 1 9)] _ (st_pl1 HB.out) Tryz.underlying27 rfl (by kernel_rfl) ?_))
              have hk1 := Blk.new wr 27 #[.int .i32 (getP S 1 0), .int .i32 (getP S 1 1), .int .i32 (getP S 1 2), .int .i32 (getP S 1 3), .int .i64 (getP S 1 4), .int .i64 (getP S 1 5), .int .i64 (getP S 1 6), .int .i64 (getP S 1 7), .int .i64 (getP S 1 8), .int .i64 (getP S 1 9)]
              have hb1 := bAlloc hbr (.cells #[.int .i32 (getP S 1 0), .int .i32 (getP S 1 1), .int .i32 (getP S 1 2), .int .i32 (getP S 1 3), .int .i64 (getP S 1 4), .int .i64 (getP S 1 5), .int .i64 (getP S 1 6), .int .i64 (getP S 1 7), .int .i64 (getP S 1 8), .int .i64 (getP S 1 9)] 27)
              obtain ⟨W5, hW5⟩ : ∃ W5, wr.alloc (.cells #[.int .i32 (getP S 1 0), .int .i32 (getP S 1 1), .int .i32 (getP S 1 2), .int .i32 (getP S 1 3), .int .i64 (getP S 1 4), .int .i64 (getP S 1 5), .int .i64 (getP S 1 6), .int .i64 (getP S 1 7), .int .i64 (getP S 1 8), .int .i64 (getP S 1 9)] 27) = W5 := ⟨_, rfl⟩
              rw [hW5] at hk1 hb1 ⊢
              have HB5 : Hid (Blk W5 w.heap.size 33 (stCells S).toArray) := by rw [← hW5]; exact Lib.hid (HB.out.alloc _)
              have g0 := hk1.cell 0
              have g1 := hk1.cell 1
              have g4 := hk1.cell 4
              have g5 := hk1.cell 5
              have g6 := hk1.cell 6
              have g7 := hk1.cell 7
              have g8 := hk1.cell 8
              have g9 := hk1.cell 9
              have gl := hk1.lt
              simp only [List.getElem?_toArray, List.getElem?_cons_zero, List.getElem?_cons_succ] at g0 g1 g4 g5 g6 g7 g8 g9
              clear hW5 hk1
              try simp only [List.append_eq, List.cons_append, List.nil_append]
              refine wp_region_mild (by kernel_rfl) (by kernel_rfl) ?_
              repeat (go_big_quiet_step ((first | (go_at_call 34; exact mild_of (r12Box_60 _)) | (go_at_call 33; exact mild_of (rins _ _ _ _ _ _ _ _ HIN.out)))))
              refine wpQuiet_nil ?_
              intro w6 hw'
              obtain ⟨⟨wq, k6⟩, hw''⟩ := hw'
              subst hw''
              go_wp2
              go_ret
              exact ⟨ret_bool HNO.out.symm, bTrans hb1 k6⟩
          have h5' : decide (3 < getP S 1 5) = false := decide_eq_false h5
          by_cases l6 : getP S 1 6 < 0
          · have l6' : decide (getP S 1 6 < 0) = true := decide_eq_true l6
            clear l6
            as_aux_lemma =>
              have HNO := Lib.hid (rightS_p S 1 (by decide) hp)
              clear hp
              go_wp2_with (first | (refine wpList_load_mid rfl 27 (.tmp 13) rfl w.heap.size 14 rfl [.int .i32 (getP S 1 0), .int .i32 (getP S 1 1), .int .i32 (getP S 1 2), .int .i32 (getP S 1 3), .int .i64 (getP S 1 4), .int .i64 (getP S 1 5), .int .i64 (getP S 1 6), .int .i64 (getP S 1 7), .int .i64 (getP S 1 8), .int .i64 (getP S 1 9)] _ (st_pl1 HB.out) Tryz.underlying27 rfl (by kernel_rfl) ?_))
              have hk1 := Blk.new wr 27 #[.int .i32 (getP S 1 0), .int .i32 (getP S 1 1), .int .i32 (getP S 1 2), .int .i32 (getP S 1 3), .int .i64 (getP S 1 4), .int .i64 (getP S 1 5), .int .i64 (getP S 1 6), .int .i64 (getP S 1 7), .int .i64 (getP S 1 8), .int .i64 (getP S 1 9)]
              have hb1 := bAlloc hbr (.cells #[.int .i32 (getP S 1 0), .int .i32 (getP S 1 1), .int .i32 (getP S 1 2), .int .i32 (getP S 1 3), .int .i64 (getP S 1 4), .int .i64 (getP S 1 5), .int .i64 (getP S 1 6), .int .i64 (getP S 1 7), .int .i64 (getP S 1 8), .int .i64 (getP S 1 9)] 27)
              obtain ⟨W5, hW5⟩ : ∃ W5, wr.alloc (.cells #[.int .i32 (getP S 1 0), .int .i32 (getP S 1 1), .int .i32 (getP S 1 2), .int .i32 (getP S 1 3), .int .i64 (getP S 1 4), .int .i64 (getP S 1 5), .int .i64 (getP S 1 6), .int .i64 (getP S 1 7), .int .i64 (getP S 1 8), .int .i64 (getP S 1 9)] 27) = W5 := ⟨_, rfl⟩
              rw [hW5] at hk1 hb1 ⊢
              have HB5 : Hid (Blk W5 w.heap.size 33 (stCells S).toArray) := by rw [← hW5]; exact Lib.hid (HB.out.alloc _)
              have g0 := hk1.cell 0
              have g1 := hk1.cell 1
              have g4 := hk1.cell 4
              have g5 := hk1.cell 5
              have g6 := hk1.cell 6
              have g7 := hk1.cell 7
              have g8 := hk1.cell 8
              have g9 := hk1.cell 9
              have gl := hk1.lt
              simp only [List.getElem?_toArray, List.getElem?_cons_zero, List.getElem?_cons_succ] at g0 g1 g4 g5 g6 g7 g8 g9
              clear hW5 hk1
              try simp only [List.append_eq, List.cons_append, List.nil_append]
              refine wp_region_mild (by kernel_rfl) (by kernel_rfl) ?_
              repeat (go_big_quiet_step ((first | (go_at_call 34; exact mild_of (r12Box_60 _)) | (go_at_call 33; exact mild_of (rins _ _ _ _ _ _ _ _ HIN.out)))))
              refine wpQuiet_nil ?_
              intro w6 hw'
              obtain ⟨⟨wq, k6⟩, hw''⟩ := hw'
              subst hw''
              go_wp2
              go_ret
              exact ⟨ret_bool HNO.out.symm, bTrans hb1 k6⟩
          have l6' : decide (getP S 1 6 < 0) = false := decide_eq_false l6
          by_cases h6 : 8 < getP S 1 6
          · have h6' : decide (8 < getP S 1 6) = true := decide_eq_true h6
            clear l6 h6
            as_aux_lemma =>
              have HNO := Lib.hid (rightS_p S 1 (by decide) hp)
              clear hp
              go_wp2_with (first | (refine wpList_load_mid rfl 27 (.tmp 13) rfl w.heap.size 14 rfl [.int .i32 (getP S 1 0), .int .i32 (getP S 1 1), .int .i32 (getP S 1 2), .int .i32 (getP S 1 3), .int .i64 (getP S 1 4), .int .i64 (getP S 1 5), .int .i64 (getP S 1 6), .int .i64 (getP S 1 7), .int .i64 (getP S 1 8), .int .i64 (getP S 1 9)] _ (st_pl1 HB.out) Tryz.underlying27 rfl (by kernel_rfl) ?_))
              have hk1 := Blk.new wr 27 #[.int .i32 (getP S 1 0), .int .i32 (getP S 1 1), .int .i32 (getP S 1 2), .int .i32 (getP S 1 3), .int .i64 (getP S 1 4), .int .i64 (getP S 1 5), .int .i64 (getP S 1 6), .int .i64 (getP S 1 7), .int .i64 (getP S 1 8), .int .i64 (getP S 1 9)]
              have hb1 := bAlloc hbr (.cells #[.int .i32 (getP S 1 0), .int .i32 (getP S 1 1), .int .i32 (getP S 1 2), .int .i32 (getP S 1 3), .int .i64 (getP S 1 4), .int .i64 (getP S 1 5), .int .i64 (getP S 1 6), .int .i64 (getP S 1 7), .int .i64 (getP S 1 8), .int .i64 (getP S 1 9)] 27)
              obtain ⟨W5, hW5⟩ : ∃ W5, wr.alloc (.cells #[.int .i32 (getP S 1 0), .int .i32 (getP S 1 1), .int .i32 (getP S 1 2), .int .i32 (getP S 1 3), .int .i64 (getP S 1 4), .int .i64 (getP S 1 5), .int .i64 (getP S 1 6), .int .i64 (getP S 1 7), .int .i64 (getP S 1 8), .int .i64 (getP S 1 9)] 27) = W5 := ⟨_, rfl⟩
              rw [hW5] at hk1 hb1 ⊢
              have HB5 : Hid (Blk W5 w.heap.size 33 (stCells S).toArray) := by rw [← hW5]; exact Lib.hid (HB.out.alloc _)
              have g0 := hk1.cell 0
              have g1 := hk1.cell 1
              have g4 := hk1.cell 4
              have g5 := hk1.cell 5
              have g6 := hk1.cell 6
              have g7 := hk1.cell 7
              have g8 := hk1.cell 8
              have g9 := hk1.cell 9
              have gl := hk1.lt
              simp only [List.getElem?_toArray, List.getElem?_cons_zero, List.getElem?_cons_succ] at g0 g1 g4 g5 g6 g7 g8 g9
              clear hW5 hk1
              try simp only [List.append_eq, List.cons_append, List.nil_append]
              refine wp_region_mild (by kernel_rfl) (by kernel_rfl) ?_
              repeat (go_big_quiet_step ((first | (go_at_call 34; exact mild_of (r12Box_60 _)) | (go_at_call 33; exact mild_of (rins _ _ _ _ _ _ _ _ HIN.out)))))
              refine wpQuiet_nil ?_
              intro w6 hw'
              obtain ⟨⟨wq, k6⟩, hw''⟩ := hw'
              subst hw''
              go_wp2
              go_ret
              exact ⟨ret_bool HNO.out.symm, bTrans hb1 k6⟩
          have h6' : decide (8 < getP S 1 6) = false := decide_eq_false h6
          by_cases l7 : getP S 1 7 < 0
          · have l7' : decide (getP S 1 7 < 0) = true := decide_eq_true l7
            clear l7
            as_aux_lemma =>
              have HNO := Lib.hid (rightS_p S 1 (by decide) hp)
              clear hp
              go_wp2_with (first | (refine wpList_load_mid rfl 27 (.tmp 13) rfl w.heap.size 14 rfl [.int .i32 (getP S 1 0), .int .i32 (getP S 1 1), .int .i32 (getP S 1 2), .int .i32 (getP S 1 3), .int .i64 (getP S 1 4), .int .i64 (getP S 1 5), .int .i64 (getP S 1 6), .int .i64 (getP S 1 7), .int .i64 (getP S 1 8), .int .i64 (getP S 1 9)] _ (st_pl1 HB.out) Tryz.underlying27 rfl (by kernel_rfl) ?_))
              have hk1 := Blk.new wr 27 #[.int .i32 (getP S 1 0), .int .i32 (getP S 1 1), .int .i32 (getP S 1 2), .int .i32 (getP S 1 3), .int .i64 (getP S 1 4), .int .i64 (getP S 1 5), .int .i64 (getP S 1 6), .int .i64 (getP S 1 7), .int .i64 (getP S 1 8), .int .i64 (getP S 1 9)]
              have hb1 := bAlloc hbr (.cells #[.int .i32 (getP S 1 0), .int .i32 (getP S 1 1), .int .i32 (getP S 1 2), .int .i32 (getP S 1 3), .int .i64 (getP S 1 4), .int .i64 (getP S 1 5), .int .i64 (getP S 1 6), .int .i64 (getP S 1 7), .int .i64 (getP S 1 8), .int .i64 (getP S 1 9)] 27)
              obtain ⟨W5, hW5⟩ : ∃ W5, wr.alloc (.cells #[.int .i32 (getP S 1 0), .int .i32 (getP S 1 1), .int .i32 (getP S 1 2), .int .i32 (getP S 1 3), .int .i64 (getP S 1 4), .int .i64 (getP S 1 5), .int .i64 (getP S 1 6), .int .i64 (getP S 1 7), .int .i64 (getP S 1 8), .int .i64 (getP S 1 9)] 27) = W5 := ⟨_, rfl⟩
              rw [hW5] at hk1 hb1 ⊢
              have HB5 : Hid (Blk W5 w.heap.size 33 (stCells S).toArray) := by rw [← hW5]; exact Lib.hid (HB.out.alloc _)
              have g0 := hk1.cell 0
              have g1 := hk1.cell 1
              have g4 := hk1.cell 4
              have g5 := hk1.cell 5
              have g6 := hk1.cell 6
              have g7 := hk1.cell 7
              have g8 := hk1.cell 8
              have g9 := hk1.cell 9
              have gl := hk1.lt
              simp only [List.getElem?_toArray, List.getElem?_cons_zero, List.getElem?_cons_succ] at g0 g1 g4 g5 g6 g7 g8 g9
              clear hW5 hk1
              try simp only [List.append_eq, List.cons_append, List.nil_append]
              refine wp_region_mild (by kernel_rfl) (by kernel_rfl) ?_
              repeat (go_big_quiet_step ((first | (go_at_call 34; exact mild_of (r12Box_60 _)) | (go_at_call 33; exact mild_of (rins _ _ _ _ _ _ _ _ HIN.out)))))
              refine wpQuiet_nil ?_
              intro w6 hw'
              obtain ⟨⟨wq, k6⟩, hw''⟩ := hw'
              subst hw''
              go_wp2
              go_ret
              exact ⟨ret_bool HNO.out.symm, bTrans hb1 k6⟩
          have l7' : decide (getP S 1 7 < 0) = false := decide_eq_false l7
          by_cases h7 : 20 < getP S 1 7
          · have h7' : decide (20 < getP S 1 7) = true := decide_eq_true h7
            clear l7 h7
            as_aux_lemma =>
              have HNO := Lib.hid (rightS_p S 1 (by decide) hp)
              clear hp
              go_wp2_with (first | (refine wpList_load_mid rfl 27 (.tmp 13) rfl w.heap.size 14 rfl [.int .i32 (getP S 1 0), .int .i32 (getP S 1 1), .int .i32 (getP S 1 2), .int .i32 (getP S 1 3), .int .i64 (getP S 1 4), .int .i64 (getP S 1 5), .int .i64 (getP S 1 6), .int .i64 (getP S 1 7), .int .i64 (getP S 1 8), .int .i64 (getP S 1 9)] _ (st_pl1 HB.out) Tryz.underlying27 rfl (by kernel_rfl) ?_))
              have hk1 := Blk.new wr 27 #[.int .i32 (getP S 1 0), .int .i32 (getP S 1 1), .int .i32 (getP S 1 2), .int .i32 (getP S 1 3), .int .i64 (getP S 1 4), .int .i64 (getP S 1 5), .int .i64 (getP S 1 6), .int .i64 (getP S 1 7), .int .i64 (getP S 1 8), .int .i64 (getP S 1 9)]
              have hb1 := bAlloc hbr (.cells #[.int .i32 (getP S 1 0), .int .i32 (getP S 1 1), .int .i32 (getP S 1 2), .int .i32 (getP S 1 3), .int .i64 (getP S 1 4), .int .i64 (getP S 1 5), .int .i64 (getP S 1 6), .int .i64 (getP S 1 7), .int .i64 (getP S 1 8), .int .i64 (getP S 1 9)] 27)
              obtain ⟨W5, hW5⟩ : ∃ W5, wr.alloc (.cells #[.int .i32 (getP S 1 0), .int .i32 (getP S 1 1), .int .i32 (getP S 1 2), .int .i32 (getP S 1 3), .int .i64 (getP S 1 4), .int .i64 (getP S 1 5), .int .i64 (getP S 1 6), .int .i64 (getP S 1 7), .int .i64 (getP S 1 8), .int .i64 (getP S 1 9)] 27) = W5 := ⟨_, rfl⟩
              rw [hW5] at hk1 hb1 ⊢
              have HB5 : Hid (Blk W5 w.heap.size 33 (stCells S).toArray) := by rw [← hW5]; exact Lib.hid (HB.out.alloc _)
              have g0 := hk1.cell 0
              have g1 := hk1.cell 1
              have g4 := hk1.cell 4
              have g5 := hk1.cell 5
              have g6 := hk1.cell 6
              have g7 := hk1.cell 7
              have g8 := hk1.cell 8
              have g9 := hk1.cell 9
              have gl := hk1.lt
              simp only [List.getElem?_toArray, List.getElem?_cons_zero, List.getElem?_cons_succ] at g0 g1 g4 g5 g6 g7 g8 g9
              clear hW5 hk1
              try simp only [List.append_eq, List.cons_append, List.nil_append]
              refine wp_region_mild (by kernel_rfl) (by kernel_rfl) ?_
              repeat (go_big_quiet_step ((first | (go_at_call 34; exact mild_of (r12Box_60 _)) | (go_at_call 33; exact mild_of (rins _ _ _ _ _ _ _ _ HIN.out)))))
              refine wpQuiet_nil ?_
              intro w6 hw'
              obtain ⟨⟨wq, k6⟩, hw''⟩ := hw'
              subst hw''
              go_wp2
              go_ret
              exact ⟨ret_bool HNO.out.symm, bTrans hb1 k6⟩
          have h7' : decide (20 < getP S 1 7) = false := decide_eq_false h7
          by_cases l8 : getP S 1 8 < 0
          · have l8' : decide (getP S 1 8 < 0) = true := decide_eq_true l8
            clear l8
            as_aux_lemma =>
              have HNO := Lib.hid (rightS_p S 1 (by decide) hp)
              clear hp
              go_wp2_with (first | (refine wpList_load_mid rfl 27 (.tmp 13) rfl w.heap.size 14 rfl [.int .i32 (getP S 1 0), .int .i32 (getP S 1 1), .int .i32 (getP S 1 2), .int .i32 (getP S 1 3), .int .i64 (getP S 1 4), .int .i64 (getP S 1 5), .int .i64 (getP S 1 6), .int .i64 (getP S 1 7), .int .i64 (getP S 1 8), .int .i64 (getP S 1 9)] _ (st_pl1 HB.out) Tryz.underlying27 rfl (by kernel_rfl) ?_))
              have hk1 := Blk.new wr 27 #[.int .i32 (getP S 1 0), .int .i32 (getP S 1 1), .int .i32 (getP S 1 2), .int .i32 (getP S 1 3), .int .i64 (getP S 1 4), .int .i64 (getP S 1 5), .int .i64 (getP S 1 6), .int .i64 (getP S 1 7), .int .i64 (getP S 1 8), .int .i64 (getP S 1 9)]
              have hb1 := bAlloc hbr (.cells #[.int .i32 (getP S 1 0), .int .i32 (getP S 1 1), .int .i32 (getP S 1 2), .int .i32 (getP S 1 3), .int .i64 (getP S 1 4), .int .i64 (getP S 1 5), .int .i64 (getP S 1 6), .int .i64 (getP S 1 7), .int .i64 (getP S 1 8), .int .i64 (getP S 1 9)] 27)
              obtain ⟨W5, hW5⟩ : ∃ W5, wr.alloc (.cells #[.int .i32 (getP S 1 0), .int .i32 (getP S 1 1), .int .i32 (getP S 1 2), .int .i32 (getP S 1 3), .int .i64 (getP S 1 4), .int .i64 (getP S 1 5), .int .i64 (getP S 1 6), .int .i64 (getP S 1 7), .int .i64 (getP S 1 8), .int .i64 (getP S 1 9)] 27) = W5 := ⟨_, rfl⟩
              rw [hW5] at hk1 hb1 ⊢
              have HB5 : Hid (Blk W5 w.heap.size 33 (stCells S).toArray) := by rw [← hW5]; exact Lib.hid (HB.out.alloc _)
              have g0 := hk1.cell 0
              have g1 := hk1.cell 1
              have g4 := hk1.cell 4
              have g5 := hk1.cell 5
              have g6 := hk1.cell 6
              have g7 := hk1.cell 7
              have g8 := hk1.cell 8
              have g9 := hk1.cell 9
              have gl := hk1.lt
              simp only [List.getElem?_toArray, List.getElem?_cons_zero, List.getElem?_cons_succ] at g0 g1 g4 g5 g6 g7 g8 g9
              clear hW5 hk1
              try simp only [List.append_eq, List.cons_append, List.nil_append]
              refine wp_region_mild (by kernel_rfl) (by kernel_rfl) ?_
              repeat (go_big_quiet_step ((first | (go_at_call 34; exact mild_of (r12Box_60 _)) | (go_at_call 33; exact mild_of (rins _ _ _ _ _ _ _ _ HIN.out)))))
              refine wpQuiet_nil ?_
              intro w6 hw'
              obtain ⟨⟨wq, k6⟩, hw''⟩ := hw'
              subst hw''
              go_wp2
              go_ret
              exact ⟨ret_bool HNO.out.symm, bTrans hb1 k6⟩
          have l8' : decide (getP S 1 8 < 0) = false := decide_eq_false l8
          by_cases h8 : 30 < getP S 1 8
          · have h8' : decide (30 < getP S 1 8) = true := decide_eq_true h8
            clear l8 h8
            as_aux_lemma =>
              have HNO := Lib.hid (rightS_p S 1 (by decide) hp)
              clear hp
              go_wp2_with (first | (refine wpList_load_mid rfl 27 (.tmp 13) rfl w.heap.size 14 rfl [.int .i32 (getP S 1 0), .int .i32 (getP S 1 1), .int .i32 (getP S 1 2), .int .i32 (getP S 1 3), .int .i64 (getP S 1 4), .int .i64 (getP S 1 5), .int .i64 (getP S 1 6), .int .i64 (getP S 1 7), .int .i64 (getP S 1 8), .int .i64 (getP S 1 9)] _ (st_pl1 HB.out) Tryz.underlying27 rfl (by kernel_rfl) ?_))
              have hk1 := Blk.new wr 27 #[.int .i32 (getP S 1 0), .int .i32 (getP S 1 1), .int .i32 (getP S 1 2), .int .i32 (getP S 1 3), .int .i64 (getP S 1 4), .int .i64 (getP S 1 5), .int .i64 (getP S 1 6), .int .i64 (getP S 1 7), .int .i64 (getP S 1 8), .int .i64 (getP S 1 9)]
              have hb1 := bAlloc hbr (.cells #[.int .i32 (getP S 1 0), .int .i32 (getP S 1 1), .int .i32 (getP S 1 2), .int .i32 (getP S 1 3), .int .i64 (getP S 1 4), .int .i64 (getP S 1 5), .int .i64 (getP S 1 6), .int .i64 (getP S 1 7), .int .i64 (getP S 1 8), .int .i64 (getP S 1 9)] 27)
              obtain ⟨W5, hW5⟩ : ∃ W5, wr.alloc (.cells #[.int .i32 (getP S 1 0), .int .i32 (getP S 1 1), .int .i32 (getP S 1 2), .int .i32 (getP S 1 3), .int .i64 (getP S 1 4), .int .i64 (getP S 1 5), .int .i64 (getP S 1 6), .int .i64 (getP S 1 7), .int .i64 (getP S 1 8), .int .i64 (getP S 1 9)] 27) = W5 := ⟨_, rfl⟩
              rw [hW5] at hk1 hb1 ⊢
              have HB5 : Hid (Blk W5 w.heap.size 33 (stCells S).toArray) := by rw [← hW5]; exact Lib.hid (HB.out.alloc _)
              have g0 := hk1.cell 0
              have g1 := hk1.cell 1
              have g4 := hk1.cell 4
              have g5 := hk1.cell 5
              have g6 := hk1.cell 6
              have g7 := hk1.cell 7
              have g8 := hk1.cell 8
              have g9 := hk1.cell 9
              have gl := hk1.lt
              simp only [List.getElem?_toArray, List.getElem?_cons_zero, List.getElem?_cons_succ] at g0 g1 g4 g5 g6 g7 g8 g9
              clear hW5 hk1
              try simp only [List.append_eq, List.cons_append, List.nil_append]
              refine wp_region_mild (by kernel_rfl) (by kernel_rfl) ?_
              repeat (go_big_quiet_step ((first | (go_at_call 34; exact mild_of (r12Box_60 _)) | (go_at_call 33; exact mild_of (rins _ _ _ _ _ _ _ _ HIN.out)))))
              refine wpQuiet_nil ?_
              intro w6 hw'
              obtain ⟨⟨wq, k6⟩, hw''⟩ := hw'
              subst hw''
              go_wp2
              go_ret
              exact ⟨ret_bool HNO.out.symm, bTrans hb1 k6⟩
          have h8' : decide (30 < getP S 1 8) = false := decide_eq_false h8
          by_cases l9 : getP S 1 9 < 0
          · have l9' : decide (getP S 1 9 < 0) = true := decide_eq_true l9
            clear l9
            as_aux_lemma =>
              have HNO := Lib.hid (rightS_p S 1 (by decide) hp)
              clear hp
              go_wp2_with (first | (refine wpList_load_mid rfl 27 (.tmp 13) rfl w.heap.size 14 rfl [.int .i32 (getP S 1 0), .int .i32 (getP S 1 1), .int .i32 (getP S 1 2), .int .i32 (getP S 1 3), .int .i64 (getP S 1 4), .int .i64 (getP S 1 5), .int .i64 (getP S 1 6), .int .i64 (getP S 1 7), .int .i64 (getP S 1 8), .int .i64 (getP S 1 9)] _ (st_pl1 HB.out) Tryz.underlying27 rfl (by kernel_rfl) ?_))
              have hk1 := Blk.new wr 27 #[.int .i32 (getP S 1 0), .int .i32 (getP S 1 1), .int .i32 (getP S 1 2), .int .i32 (getP S 1 3), .int .i64 (getP S 1 4), .int .i64 (getP S 1 5), .int .i64 (getP S 1 6), .int .i64 (getP S 1 7), .int .i64 (getP S 1 8), .int .i64 (getP S 1 9)]
              have hb1 := bAlloc hbr (.cells #[.int .i32 (getP S 1 0), .int .i32 (getP S 1 1), .int .i32 (getP S 1 2), .int .i32 (getP S 1 3), .int .i64 (getP S 1 4), .int .i64 (getP S 1 5), .int .i64 (getP S 1 6), .int .i64 (getP S 1 7), .int .i64 (getP S 1 8), .int .i64 (getP S 1 9)] 27)
              obtain ⟨W5, hW5⟩ : ∃ W5, wr.alloc (.cells #[.int .i32 (getP S 1 0), .int .i32 (getP S 1 1), .int .i32 (getP S 1 2), .int .i32 (getP S 1 3), .int .i64 (getP S 1 4), .int .i64 (getP S 1 5), .int .i64 (getP S 1 6), .int .i64 (getP S 1 7), .int .i64 (getP S 1 8), .int .i64 (getP S 1 9)] 27) = W5 := ⟨_, rfl⟩
              rw [hW5] at hk1 hb1 ⊢
              have HB5 : Hid (Blk W5 w.heap.size 33 (stCells S).toArray) := by rw [← hW5]; exact Lib.hid (HB.out.alloc _)
              have g0 := hk1.cell 0
              have g1 := hk1.cell 1
              have g4 := hk1.cell 4
              have g5 := hk1.cell 5
              have g6 := hk1.cell 6
              have g7 := hk1.cell 7
              have g8 := hk1.cell 8
              have g9 := hk1.cell 9
              have gl := hk1.lt
              simp only [List.getElem?_toArray, List.getElem?_cons_zero, List.getElem?_cons_succ] at g0 g1 g4 g5 g6 g7 g8 g9
              clear hW5 hk1
              try simp only [List.append_eq, List.cons_append, List.nil_append]
              refine wp_region_mild (by kernel_rfl) (by kernel_rfl) ?_
              repeat (go_big_quiet_step ((first | (go_at_call 34; exact mild_of (r12Box_60 _)) | (go_at_call 33; exact mild_of (rins _ _ _ _ _ _ _ _ HIN.out)))))
              refine wpQuiet_nil ?_
              intro w6 hw'
              obtain ⟨⟨wq, k6⟩, hw''⟩ := hw'
              subst hw''
              go_wp2
              go_ret
              exact ⟨ret_bool HNO.out.symm, bTrans hb1 k6⟩
          have l9' : decide (getP S 1 9 < 0) = false := decide_eq_false l9
          by_cases h9 : 2 < getP S 1 9
          · have h9' : decide (2 < getP S 1 9) = true := decide_eq_true h9
            clear l9 h9
            as_aux_lemma =>
              have HNO := Lib.hid (rightS_p S 1 (by decide) hp)
              clear hp
              go_wp2_with (first | (refine wpList_load_mid rfl 27 (.tmp 13) rfl w.heap.size 14 rfl [.int .i32 (getP S 1 0), .int .i32 (getP S 1 1), .int .i32 (getP S 1 2), .int .i32 (getP S 1 3), .int .i64 (getP S 1 4), .int .i64 (getP S 1 5), .int .i64 (getP S 1 6), .int .i64 (getP S 1 7), .int .i64 (getP S 1 8), .int .i64 (getP S 1 9)] _ (st_pl1 HB.out) Tryz.underlying27 rfl (by kernel_rfl) ?_))
              have hk1 := Blk.new wr 27 #[.int .i32 (getP S 1 0), .int .i32 (getP S 1 1), .int .i32 (getP S 1 2), .int .i32 (getP S 1 3), .int .i64 (getP S 1 4), .int .i64 (getP S 1 5), .int .i64 (getP S 1 6), .int .i64 (getP S 1 7), .int .i64 (getP S 1 8), .int .i64 (getP S 1 9)]
              have hb1 := bAlloc hbr (.cells #[.int .i32 (getP S 1 0), .int .i32 (getP S 1 1), .int .i32 (getP S 1 2), .int .i32 (getP S 1 3), .int .i64 (getP S 1 4), .int .i64 (getP S 1 5), .int .i64 (getP S 1 6), .int .i64 (getP S 1 7), .int .i64 (getP S 1 8), .int .i64 (getP S 1 9)] 27)
              obtain ⟨W5, hW5⟩ : ∃ W5, wr.alloc (.cells #[.int .i32 (getP S 1 0), .int .i32 (getP S 1 1), .int .i32 (getP S 1 2), .int .i32 (getP S 1 3), .int .i64 (getP S 1 4), .int .i64 (getP S 1 5), .int .i64 (getP S 1 6), .int .i64 (getP S 1 7), .int .i64 (getP S 1 8), .int .i64 (getP S 1 9)] 27) = W5 := ⟨_, rfl⟩
              rw [hW5] at hk1 hb1 ⊢
              have HB5 : Hid (Blk W5 w.heap.size 33 (stCells S).toArray) := by rw [← hW5]; exact Lib.hid (HB.out.alloc _)
              have g0 := hk1.cell 0
              have g1 := hk1.cell 1
              have g4 := hk1.cell 4
              have g5 := hk1.cell 5
              have g6 := hk1.cell 6
              have g7 := hk1.cell 7
              have g8 := hk1.cell 8
              have g9 := hk1.cell 9
              have gl := hk1.lt
              simp only [List.getElem?_toArray, List.getElem?_cons_zero, List.getElem?_cons_succ] at g0 g1 g4 g5 g6 g7 g8 g9
              clear hW5 hk1
              try simp only [List.append_eq, List.cons_append, List.nil_append]
              refine wp_region_mild (by kernel_rfl) (by kernel_rfl) ?_
              repeat (go_big_quiet_step ((first | (go_at_call 34; exact mild_of (r12Box_60 _)) | (go_at_call 33; exact mild_of (rins _ _ _ _ _ _ _ _ HIN.out)))))
              refine wpQuiet_nil ?_
              intro w6 hw'
              obtain ⟨⟨wq, k6⟩, hw''⟩ := hw'
              subst hw''
              go_wp2
              go_ret
              exact ⟨ret_bool HNO.out.symm, bTrans hb1 k6⟩
          have h9' : decide (2 < getP S 1 9) = false := decide_eq_false h9
          cases hin : insideB (-3932160) (-3932160) 3932160 3932160 (getP S 1 0) (getP S 1 1)
          · have HIN := Lib.hid hin
            clear hin
            as_aux_lemma =>
              have HNO := Lib.hid (rightS_p S 1 (by decide) hp)
              clear hp
              go_wp2_with (first | (refine wpList_load_mid rfl 27 (.tmp 13) rfl w.heap.size 14 rfl [.int .i32 (getP S 1 0), .int .i32 (getP S 1 1), .int .i32 (getP S 1 2), .int .i32 (getP S 1 3), .int .i64 (getP S 1 4), .int .i64 (getP S 1 5), .int .i64 (getP S 1 6), .int .i64 (getP S 1 7), .int .i64 (getP S 1 8), .int .i64 (getP S 1 9)] _ (st_pl1 HB.out) Tryz.underlying27 rfl (by kernel_rfl) ?_))
              have hk1 := Blk.new wr 27 #[.int .i32 (getP S 1 0), .int .i32 (getP S 1 1), .int .i32 (getP S 1 2), .int .i32 (getP S 1 3), .int .i64 (getP S 1 4), .int .i64 (getP S 1 5), .int .i64 (getP S 1 6), .int .i64 (getP S 1 7), .int .i64 (getP S 1 8), .int .i64 (getP S 1 9)]
              have hb1 := bAlloc hbr (.cells #[.int .i32 (getP S 1 0), .int .i32 (getP S 1 1), .int .i32 (getP S 1 2), .int .i32 (getP S 1 3), .int .i64 (getP S 1 4), .int .i64 (getP S 1 5), .int .i64 (getP S 1 6), .int .i64 (getP S 1 7), .int .i64 (getP S 1 8), .int .i64 (getP S 1 9)] 27)
              obtain ⟨W5, hW5⟩ : ∃ W5, wr.alloc (.cells #[.int .i32 (getP S 1 0), .int .i32 (getP S 1 1), .int .i32 (getP S 1 2), .int .i32 (getP S 1 3), .int .i64 (getP S 1 4), .int .i64 (getP S 1 5), .int .i64 (getP S 1 6), .int .i64 (getP S 1 7), .int .i64 (getP S 1 8), .int .i64 (getP S 1 9)] 27) = W5 := ⟨_, rfl⟩
              rw [hW5] at hk1 hb1 ⊢
              have HB5 : Hid (Blk W5 w.heap.size 33 (stCells S).toArray) := by rw [← hW5]; exact Lib.hid (HB.out.alloc _)
              have g0 := hk1.cell 0
              have g1 := hk1.cell 1
              have g4 := hk1.cell 4
              have g5 := hk1.cell 5
              have g6 := hk1.cell 6
              have g7 := hk1.cell 7
              have g8 := hk1.cell 8
              have g9 := hk1.cell 9
              have gl := hk1.lt
              simp only [List.getElem?_toArray, List.getElem?_cons_zero, List.getElem?_cons_succ] at g0 g1 g4 g5 g6 g7 g8 g9
              clear hW5 hk1
              try simp only [List.append_eq, List.cons_append, List.nil_append]
              refine wp_region_mild (by kernel_rfl) (by kernel_rfl) ?_
              repeat (go_big_quiet_step ((first | (go_at_call 34; exact mild_of (r12Box_60 _)) | (go_at_call 33; exact mild_of (rins _ _ _ _ _ _ _ _ HIN.out)))))
              refine wpQuiet_nil ?_
              intro w6 hw'
              obtain ⟨⟨wq, k6⟩, hw''⟩ := hw'
              subst hw''
              go_wp2
              go_ret
              exact ⟨ret_bool HNO.out.symm, bTrans hb1 k6⟩
          have HIN := Lib.hid hin
          have hlast : (!decide (0 < getP S 1 5) == (getP S 1 8 == 0)) = true := by
            cases hq : (decide (0 < getP S 1 5) == (getP S 1 8 == 0))
            · first | exact beq_flip_t hq | rfl
            · exfalso
              have := (playerB_iff' (getP S 1)).2 ⟨by omega, by omega, by omega, by omega, by omega, by omega, hin, hq⟩
              rw [this] at hp
              cases hp
          clear hin
          as_aux_lemma =>
            have HNO := Lib.hid (rightS_p S 1 (by decide) hp)
            clear hp
            go_wp2_with (first | (refine wpList_load_mid rfl 27 (.tmp 13) rfl w.heap.size 14 rfl [.int .i32 (getP S 1 0), .int .i32 (getP S 1 1), .int .i32 (getP S 1 2), .int .i32 (getP S 1 3), .int .i64 (getP S 1 4), .int .i64 (getP S 1 5), .int .i64 (getP S 1 6), .int .i64 (getP S 1 7), .int .i64 (getP S 1 8), .int .i64 (getP S 1 9)] _ (st_pl1 HB.out) Tryz.underlying27 rfl (by kernel_rfl) ?_))
            have hk1 := Blk.new wr 27 #[.int .i32 (getP S 1 0), .int .i32 (getP S 1 1), .int .i32 (getP S 1 2), .int .i32 (getP S 1 3), .int .i64 (getP S 1 4), .int .i64 (getP S 1 5), .int .i64 (getP S 1 6), .int .i64 (getP S 1 7), .int .i64 (getP S 1 8), .int .i64 (getP S 1 9)]
            have hb1 := bAlloc hbr (.cells #[.int .i32 (getP S 1 0), .int .i32 (getP S 1 1), .int .i32 (getP S 1 2), .int .i32 (getP S 1 3), .int .i64 (getP S 1 4), .int .i64 (getP S 1 5), .int .i64 (getP S 1 6), .int .i64 (getP S 1 7), .int .i64 (getP S 1 8), .int .i64 (getP S 1 9)] 27)
            obtain ⟨W5, hW5⟩ : ∃ W5, wr.alloc (.cells #[.int .i32 (getP S 1 0), .int .i32 (getP S 1 1), .int .i32 (getP S 1 2), .int .i32 (getP S 1 3), .int .i64 (getP S 1 4), .int .i64 (getP S 1 5), .int .i64 (getP S 1 6), .int .i64 (getP S 1 7), .int .i64 (getP S 1 8), .int .i64 (getP S 1 9)] 27) = W5 := ⟨_, rfl⟩
            rw [hW5] at hk1 hb1 ⊢
            have HB5 : Hid (Blk W5 w.heap.size 33 (stCells S).toArray) := by rw [← hW5]; exact Lib.hid (HB.out.alloc _)
            have g0 := hk1.cell 0
            have g1 := hk1.cell 1
            have g4 := hk1.cell 4
            have g5 := hk1.cell 5
            have g6 := hk1.cell 6
            have g7 := hk1.cell 7
            have g8 := hk1.cell 8
            have g9 := hk1.cell 9
            have gl := hk1.lt
            simp only [List.getElem?_toArray, List.getElem?_cons_zero, List.getElem?_cons_succ] at g0 g1 g4 g5 g6 g7 g8 g9
            clear hW5 hk1
            try simp only [List.append_eq, List.cons_append, List.nil_append]
            refine wp_region_mild (by kernel_rfl) (by kernel_rfl) ?_
            repeat (go_big_quiet_step ((first | (go_at_call 34; exact mild_of (r12Box_60 _)) | (go_at_call 33; exact mild_of (rins _ _ _ _ _ _ _ _ HIN.out)))))
            refine wpQuiet_nil ?_
            intro w6 hw'
            obtain ⟨⟨wq, k6⟩, hw''⟩ := hw'
            subst hw''
            go_wp2
            go_ret
            exact ⟨ret_bool HNO.out.symm, bTrans hb1 k6⟩
        · have HP := Lib.hid hp
          obtain ⟨⟨a1, a2⟩, ⟨b1, b2⟩, ⟨c1, c2⟩, ⟨d1, d2⟩, ⟨e1, e2⟩, ⟨f1, f2⟩, hin, hl⟩ := (playerB_iff' _).1 hp
          have HIN := Lib.hid hin
          have hlast : (!decide (0 < getP S 1 5) == (getP S 1 8 == 0)) = false := beq_flip_f hl
          have l4' : decide (getP S 1 4 < 0) = false := decide_eq_false (by omega)
          have h4' : decide (65535 < getP S 1 4) = false := decide_eq_false (by omega)
          have l5' : decide (getP S 1 5 < 0) = false := decide_eq_false (by omega)
          have h5' : decide (3 < getP S 1 5) = false := decide_eq_false (by omega)
          have l6' : decide (getP S 1 6 < 0) = false := decide_eq_false (by omega)
          have h6' : decide (8 < getP S 1 6) = false := decide_eq_false (by omega)
          have l7' : decide (getP S 1 7 < 0) = false := decide_eq_false (by omega)
          have h7' : decide (20 < getP S 1 7) = false := decide_eq_false (by omega)
          have l8' : decide (getP S 1 8 < 0) = false := decide_eq_false (by omega)
          have h8' : decide (30 < getP S 1 8) = false := decide_eq_false (by omega)
          have l9' : decide (getP S 1 9 < 0) = false := decide_eq_false (by omega)
          have h9' : decide (2 < getP S 1 9) = false := decide_eq_false (by omega)
          clear hp hin hl
          go_wp2_with (first | (refine wpList_load_mid rfl 27 (.tmp 13) rfl w.heap.size 14 rfl [.int .i32 (getP S 1 0), .int .i32 (getP S 1 1), .int .i32 (getP S 1 2), .int .i32 (getP S 1 3), .int .i64 (getP S 1 4), .int .i64 (getP S 1 5), .int .i64 (getP S 1 6), .int .i64 (getP S 1 7), .int .i64 (getP S 1 8), .int .i64 (getP S 1 9)] _ (st_pl1 HB.out) Tryz.underlying27 rfl (by kernel_rfl) ?_))
          have hk1 := Blk.new wr 27 #[.int .i32 (getP S 1 0), .int .i32 (getP S 1 1), .int .i32 (getP S 1 2), .int .i32 (getP S 1 3), .int .i64 (getP S 1 4), .int .i64 (getP S 1 5), .int .i64 (getP S 1 6), .int .i64 (getP S 1 7), .int .i64 (getP S 1 8), .int .i64 (getP S 1 9)]
          have hb1 := bAlloc hbr (.cells #[.int .i32 (getP S 1 0), .int .i32 (getP S 1 1), .int .i32 (getP S 1 2), .int .i32 (getP S 1 3), .int .i64 (getP S 1 4), .int .i64 (getP S 1 5), .int .i64 (getP S 1 6), .int .i64 (getP S 1 7), .int .i64 (getP S 1 8), .int .i64 (getP S 1 9)] 27)
          obtain ⟨W5, hW5⟩ : ∃ W5, wr.alloc (.cells #[.int .i32 (getP S 1 0), .int .i32 (getP S 1 1), .int .i32 (getP S 1 2), .int .i32 (getP S 1 3), .int .i64 (getP S 1 4), .int .i64 (getP S 1 5), .int .i64 (getP S 1 6), .int .i64 (getP S 1 7), .int .i64 (getP S 1 8), .int .i64 (getP S 1 9)] 27) = W5 := ⟨_, rfl⟩
          rw [hW5] at hk1 hb1 ⊢
          have HB5 : Hid (Blk W5 w.heap.size 33 (stCells S).toArray) := by rw [← hW5]; exact Lib.hid (HB.out.alloc _)
          have g0 := hk1.cell 0
          have g1 := hk1.cell 1
          have g4 := hk1.cell 4
          have g5 := hk1.cell 5
          have g6 := hk1.cell 6
          have g7 := hk1.cell 7
          have g8 := hk1.cell 8
          have g9 := hk1.cell 9
          have gl := hk1.lt
          simp only [List.getElem?_toArray, List.getElem?_cons_zero, List.getElem?_cons_succ] at g0 g1 g4 g5 g6 g7 g8 g9
          clear hW5 hk1
          try simp only [List.append_eq, List.cons_append, List.nil_append]
          refine wp_region_mild (by kernel_rfl) (by kernel_rfl) ?_
          repeat (go_big_quiet_step ((first | (go_at_call 34; exact mild_of (r12Box_60 _)) | (go_at_call 33; exact mild_of (rins _ _ _ _ _ _ _ _ HIN.out)))))
          refine wpQuiet_nil ?_
          intro w6 hw'
          obtain ⟨⟨wq, k6⟩, hw''⟩ := hw'
          subst hw''
          have HB6 := Lib.hid (HB5.out.on k6)
          have hb6 := bTrans hb1 k6
          clear k6 hb1 g0 g1 g4 g5 g6 g7 g8 g9
          go_wp2
          go_roundw
          case rel => exact ⟨2, by omega, rfl, Lib.hid (fun j hj => (by
            rcases Nat.lt_or_ge j 1 with h | h
            · exact HALL.out j h
            · obtain rfl : j = 1 := by omega
              exact HP.out)), HB6, hb6⟩
          case measure => simp [intOf] <;> omega
    · obtain rfl : i = 2 := by omega
      have HP0 := Lib.hid (HALL.out 0 (by decide))
      have HP1 := Lib.hid (HALL.out 1 (by decide))
      clear HALL
      go_wp2_with fail
      go_loopw [5] (fun v wr => ∃ k : Nat, k ≤ 6 ∧ v = .int .i64 k ∧ Hid (∀ j, j < k → shotB (getS S j) = true) ∧ Hid (Blk wr w.heap.size 33 (stCells S).toArray) ∧ Below w.heap.size w wr) (fun v _ => 6 - (intOf v).toNat)
      case atStart => exact ⟨0, by decide, rfl, Lib.hid (fun j hj => absurd hj (Nat.not_lt_zero j)), HB, hbr⟩
      case round =>
        clear HB hbr hlb
        obtain ⟨k, hk, rfl, HALL, HB, hbr⟩ := hrel
        have hlb := HB.out.lt
        by_cases hlk : k < 6
        · obtain ⟨s0, s1, s2, s3, s4, s5⟩ := st_sh HB.out k hlk
          obtain ⟨x, hx⟩ : ∃ x, getS S k = x := ⟨_, rfl⟩
          rw [hx] at s0 s1 s2 s3 s4 s5
          have HXK := Lib.hid hx
          clear hx
          go_upto_region 11 with fail
          obtain ⟨W8, hW8⟩ : ∃ W8, wr.alloc (.cells #[.int .i32 (x 0), .int .i32 (x 1), .int .i32 (x 2), .int .i32 (x 3), .int .i64 (x 4), .int .i64 (x 5)] 30) = W8 := ⟨_, rfl⟩
          rw [hW8]
          have hk8 : Blk W8 wr.heap.size 30 #[.int .i32 (x 0), .int .i32 (x 1), .int .i32 (x 2), .int .i32 (x 3), .int .i64 (x 4), .int .i64 (x 5)] := by rw [← hW8]; exact Blk.new _ _ _
          have hb8 : Below w.heap.size w W8 := by rw [← hW8]; exact bAlloc hbr _
          have HB8 : Hid (Blk W8 w.heap.size 33 (stCells S).toArray) := Lib.hid (by rw [← hW8]; exact HB.out.alloc _)
          have hl8 := hk8.lt
          have c0 := hk8.cell 0
          have c1 := hk8.cell 1
          have c2 := hk8.cell 2
          have c3 := hk8.cell 3
          have c4 := hk8.cell 4
          have c5 := hk8.cell 5
          simp only [List.getElem?_toArray, List.getElem?_cons_zero, List.getElem?_cons_succ] at c0 c1 c2 c3 c4 c5
          clear hW8 hk8 s0 s1 s2 s3 s4 s5 HB hbr hlb
          cases hz : shotZ x
          · have HZ := Lib.hid hz
            by_cases l4 : x 4 < 1
            · have l4' : decide (x 4 < 1) = true := decide_eq_true l4
              have hnb : shotB x = false := by
                rw [Bool.eq_false_iff]; intro h
                rcases (shotB_iff' x).1 h with h | ⟨q1, q2, q3⟩
                · rw [h] at hz; cases hz
                · omega
              clear hz l4
              as_aux_lemma =>
                have HNO : Hid (rightS S = false) := Lib.hid (rightS_no hlk (by rw [HXK.out]; exact hnb))
                clear hnb
                refine wp_region_mild (by kernel_rfl) (by kernel_rfl) ?_
                repeat (go_big_quiet_step ((first | (rw [nest_six x, HZ.out]; exact ⟨rfl, rfl⟩) | (go_at_call 34; exact mild_of (r12Box_64 _)) | (go_at_call 33; exact mild_of (rins _ _ _ _ _ _ _ _ HIN.out)))))
                refine wpQuiet_nil ?_
                intro w9 hw'
                obtain ⟨⟨wq, k9⟩, hw''⟩ := hw'
                subst hw''
                go_wp2
                go_ret
                exact ⟨ret_bool HNO.out.symm, bTrans hb8 k9⟩
            have l4' : decide (x 4 < 1) = false := decide_eq_false l4
            by_cases h4 : 2 < x 4
            · have h4' : decide (2 < x 4) = true := decide_eq_true h4
              have hnb : shotB x = false := by
                rw [Bool.eq_false_iff]; intro h
                rcases (shotB_iff' x).1 h with h | ⟨q1, q2, q3⟩
                · rw [h] at hz; cases hz
                · omega
              clear hz l4 h4
              as_aux_lemma =>
                have HNO : Hid (rightS S = false) := Lib.hid (rightS_no hlk (by rw [HXK.out]; exact hnb))
                clear hnb
                refine wp_region_mild (by kernel_rfl) (by kernel_rfl) ?_
                repeat (go_big_quiet_step ((first | (rw [nest_six x, HZ.out]; exact ⟨rfl, rfl⟩) | (go_at_call 34; exact mild_of (r12Box_64 _)) | (go_at_call 33; exact mild_of (rins _ _ _ _ _ _ _ _ HIN.out)))))
                refine wpQuiet_nil ?_
                intro w9 hw'
                obtain ⟨⟨wq, k9⟩, hw''⟩ := hw'
                subst hw''
                go_wp2
                go_ret
                exact ⟨ret_bool HNO.out.symm, bTrans hb8 k9⟩
            have h4' : decide (2 < x 4) = false := decide_eq_false h4
            by_cases l5 : x 5 < 1
            · have l5' : decide (x 5 < 1) = true := decide_eq_true l5
              have hnb : shotB x = false := by
                rw [Bool.eq_false_iff]; intro h
                rcases (shotB_iff' x).1 h with h | ⟨q1, q2, q3⟩
                · rw [h] at hz; cases hz
                · omega
              clear hz l4 h4 l5
              as_aux_lemma =>
                have HNO : Hid (rightS S = false) := Lib.hid (rightS_no hlk (by rw [HXK.out]; exact hnb))
                clear hnb
                refine wp_region_mild (by kernel_rfl) (by kernel_rfl) ?_
                repeat (go_big_quiet_step ((first | (rw [nest_six x, HZ.out]; exact ⟨rfl, rfl⟩) | (go_at_call 34; exact mild_of (r12Box_64 _)) | (go_at_call 33; exact mild_of (rins _ _ _ _ _ _ _ _ HIN.out)))))
                refine wpQuiet_nil ?_
                intro w9 hw'
                obtain ⟨⟨wq, k9⟩, hw''⟩ := hw'
                subst hw''
                go_wp2
                go_ret
                exact ⟨ret_bool HNO.out.symm, bTrans hb8 k9⟩
            have l5' : decide (x 5 < 1) = false := decide_eq_false l5
            by_cases h5 : 40 < x 5
            · have h5' : decide (40 < x 5) = true := decide_eq_true h5
              have hnb : shotB x = false := by
                rw [Bool.eq_false_iff]; intro h
                rcases (shotB_iff' x).1 h with h | ⟨q1, q2, q3⟩
                · rw [h] at hz; cases hz
                · omega
              clear hz l4 h4 l5 h5
              as_aux_lemma =>
                have HNO : Hid (rightS S = false) := Lib.hid (rightS_no hlk (by rw [HXK.out]; exact hnb))
                clear hnb
                refine wp_region_mild (by kernel_rfl) (by kernel_rfl) ?_
                repeat (go_big_quiet_step ((first | (rw [nest_six x, HZ.out]; exact ⟨rfl, rfl⟩) | (go_at_call 34; exact mild_of (r12Box_64 _)) | (go_at_call 33; exact mild_of (rins _ _ _ _ _ _ _ _ HIN.out)))))
                refine wpQuiet_nil ?_
                intro w9 hw'
                obtain ⟨⟨wq, k9⟩, hw''⟩ := hw'
                subst hw''
                go_wp2
                go_ret
                exact ⟨ret_bool HNO.out.symm, bTrans hb8 k9⟩
            have h5' : decide (40 < x 5) = false := decide_eq_false h5
            cases hin : insideB (-4194304) (-4194304) 4194304 4194304 (x 0) (x 1)
            · have HIN := Lib.hid hin
              have hnb : shotB x = false := by
                rw [Bool.eq_false_iff]; intro h
                rcases (shotB_iff' x).1 h with h | ⟨q1, q2, q3⟩
                · rw [h] at hz; cases hz
                · rw [hin] at q3; cases q3
              clear hz hin l4 h4 l5 h5
              as_aux_lemma =>
                have HNO : Hid (rightS S = false) := Lib.hid (rightS_no hlk (by rw [HXK.out]; exact hnb))
                clear hnb
                refine wp_region_mild (by kernel_rfl) (by kernel_rfl) ?_
                repeat (go_big_quiet_step ((first | (rw [nest_six x, HZ.out]; exact ⟨rfl, rfl⟩) | (go_at_call 34; exact mild_of (r12Box_64 _)) | (go_at_call 33; exact mild_of (rins _ _ _ _ _ _ _ _ HIN.out)))))
                refine wpQuiet_nil ?_
                intro w9 hw'
                obtain ⟨⟨wq, k9⟩, hw''⟩ := hw'
                subst hw''
                go_wp2
                go_ret
                exact ⟨ret_bool HNO.out.symm, bTrans hb8 k9⟩
            · have HIN := Lib.hid hin
              have HS : Hid (shotB x = true) := Lib.hid ((shotB_iff' x).2 (.inr ⟨by omega, by omega, hin⟩))
              clear hz hin l4 h4 l5 h5
              as_aux_lemma =>
                refine wp_region_mild (by kernel_rfl) (by kernel_rfl) ?_
                repeat (go_big_quiet_step ((first | (rw [nest_six x, HZ.out]; exact ⟨rfl, rfl⟩) | (go_at_call 34; exact mild_of (r12Box_64 _)) | (go_at_call 33; exact mild_of (rins _ _ _ _ _ _ _ _ HIN.out)))))
                refine wpQuiet_nil ?_
                intro w9 hw'
                obtain ⟨⟨wq, k9⟩, hw''⟩ := hw'
                subst hw''
                have HB9 := Lib.hid (HB8.out.on k9)
                have hb9 := bTrans hb8 k9
                clear k9 hb8 HB8 c0 c1 c2 c3 c4 c5
                go_wp2
                go_roundw
                case rel => exact ⟨k + 1, by omega, by go_num, Lib.hid (fun j hj => (by
                  rcases Nat.lt_or_ge j k with h | h
                  · exact HALL.out j h
                  · obtain rfl : j = k := by omega
                    rw [HXK.out]; exact HS.out)), HB9, hb9⟩
                case measure => simp [intOf] <;> omega
          · have HZ := Lib.hid hz
            have HS : Hid (shotB x = true) := Lib.hid ((shotB_iff' x).2 (.inl hz))
            clear hz
            as_aux_lemma =>
              refine wp_region_mild (by kernel_rfl) (by kernel_rfl) ?_
              repeat (go_big_quiet_step ((first | (rw [nest_six x, HZ.out]; exact ⟨rfl, rfl⟩) | (go_at_call 34; exact mild_of (r12Box_64 _)) | (go_at_call 33; exact mild_of (rins _ _ _ _ _ _ _ _ HIN.out)))))
              refine wpQuiet_nil ?_
              intro w9 hw'
              obtain ⟨⟨wq, k9⟩, hw''⟩ := hw'
              subst hw''
              have HB9 := Lib.hid (HB8.out.on k9)
              have hb9 := bTrans hb8 k9
              clear k9 hb8 HB8 c0 c1 c2 c3 c4 c5
              go_wp2
              go_roundw
              case rel => exact ⟨k + 1, by omega, by go_num, Lib.hid (fun j hj => (by
                rcases Nat.lt_or_ge j k with h | h
                · exact HALL.out j h
                · obtain rfl : j = k := by omega
                  rw [HXK.out]; exact HS.out)), HB9, hb9⟩
              case measure => simp [intOf] <;> omega
        · obtain rfl : k = 6 := by omega
          have HALL6 := HALL.out
          obtain ⟨e0, e2, e3⟩ := st_h HB.out
          go_wp2_with fail
          all_goals
            go_ret
            refine ⟨ret_bool ?_, hbr⟩
            rw [rightS_yes HALL6]
            unfold rightT
            rw [HP0.out, HP1.out]
            first
              | (symm; rw [Bool.eq_false_iff]; simp only [ne_eq, Bool.true_and, Bool.and_eq_true, inB_iff']; omega)
              | (symm; simp only [Bool.true_and, Bool.and_eq_true, inB_iff']; omega)
              | (rw [Bool.eq_iff_iff]; simp only [decide_eq_true_eq, Bool.true_and, Bool.and_eq_true, inB_iff']; omega)
end Go.Proofs.YtnaclkaapicelaaGreat
