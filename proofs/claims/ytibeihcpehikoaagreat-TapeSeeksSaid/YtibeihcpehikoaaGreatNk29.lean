/-
  The walks of a player as it begins, and of the round's end.
-/
import Derived.Test.YtibeihcpehikoaaGreatNk28
namespace Go.Proofs.YtibeihcpehikoaaGreat
open Go.RowKit
set_option maxRecDepth 100000
set_option maxHeartbeats 4000000
section
theorem gfresh_0 (w : World) : Calls Tryz.prog 118 #[.int .i64 0] w fun e w' => e = .returned (.agg #[.int .i32 (-2097152), .int .i32 0, .int .i32 0, .int .i32 0, .int .i64 0, .int .i64 3, .int .i64 0, .int .i64 0, .int .i64 0, .int .i64 0]) ∧ Below w.heap.size w w' := by
 go_enter Tryz.func118, Tryz.ntmps118
 go_wp2
 refine bodyPost_ret (v := .agg #[.int .i32 (-2097152), .int .i32 0, .int .i32 0, .int .i32 0, .int .i64 0, .int .i64 3, .int .i64 0, .int .i64 0, .int .i64 0, .int .i64 0]) (by simp [results, Tryz.results118, go_sem]) rfl ⟨rfl, (by repeat (first | exact Below.refl _ _ | (with_reducible assumption) | apply bAlloc | apply below_drewN | apply Below.drew))⟩
theorem gfresh_1 (w : World) : Calls Tryz.prog 118 #[.int .i64 1] w fun e w' => e = .returned (.agg #[.int .i32 2097152, .int .i32 0, .int .i32 0, .int .i32 0, .int .i64 32768, .int .i64 3, .int .i64 0, .int .i64 0, .int .i64 0, .int .i64 0]) ∧ Below w.heap.size w w' := by
 go_enter Tryz.func118, Tryz.ntmps118
 go_wp2
 refine bodyPost_ret (v := .agg #[.int .i32 2097152, .int .i32 0, .int .i32 0, .int .i32 0, .int .i64 32768, .int .i64 3, .int .i64 0, .int .i64 0, .int .i64 0, .int .i64 0]) (by simp [results, Tryz.results118, go_sem]) rfl ⟨rfl, (by repeat (first | exact Below.refl _ _ | (with_reducible assumption) | apply bAlloc | apply below_drewN | apply Below.drew))⟩
section
variable {w w' : World} {g gp base : Nat} {S : Nat → Int} {F : Int} {L : List Ev}
theorem Stg.setRange (h : Stg w g gp base S F L) (o : Nat) (vs : List Value) (S' : Nat → Int) (hn : o + vs.length ≤ 60) (hv : ∀ j, j < vs.length → vs[j]? = some (.int (kdS (o + j)) (S' (o + j)))) (hk : ∀ j, j < 60 → (j < o ∨ o + vs.length ≤ j) → S' j = S j) : Stg (w.setCells g o vs) g gp base S' F L := by
 obtain ⟨A, n, c, h1, h2, h3⟩ := h.pg
 refine ⟨?_, ⟨A, n, c, h1.farC (fun e => h.ne e.symm) _ _, h2.kept (row := some g) (oSetCells (World.grownBy.refl w _) o vs) (.inr (Blk.apart h.st h2 (by decide))), h3⟩, h.ok, h.bg, h.bp, by rw [setCells_size]; exact h.bw⟩
 have := Blk.setCells h.st vs o
 unfold StBlk
 have e : (stCells S' ++ [Value.pointer (some ⟨gp, 0, none⟩)]).toArray = putAt (stCells S ++ [Value.pointer (some ⟨gp, 0, none⟩)]).toArray o vs := by
  apply Array.ext_getElem?
  intro j
  rw [putAt_get, zM, zG, stCells_length, List.length_singleton]
  by_cases hj : j < 60
  ·rw [zA, zA, List.getElem?_append_left (by rw [stCells_length]; exact hj), List.getElem?_append_left (by rw [stCells_length]; exact hj)]
   by_cases h4 : o ≤ j ∧ j < o + vs.length
   ·rw [if_pos ⟨h4.1, h4.2, by omega⟩, hv (j - o) (by omega), show o + (j - o) = j by omega]
    simp [stCells, rowOf, hj]
   ·rw [if_neg (fun e => h4 ⟨e.1, e.2.1⟩)]
    simp [stCells, rowOf, hj, hk j hj (by omega)]
  ·rw [if_neg (by omega), zA, zA, List.getElem?_append_right (by rw [stCells_length]; omega), List.getElem?_append_right (by rw [stCells_length]; omega), stCells_length, stCells_length]
 rw [e]
 exact this
theorem Stg.there (h : Stg w g gp base S F L) {o n : Nat} (hn : o + n ≤ 60) : w.there g o n := Blk.there h.st (by rw [zM, zG, stCells_length]; omega)
end
def zeros36 : List Value := [.int .i32 0, .int .i32 0, .int .i32 0, .int .i32 0, .int .i64 0, .int .i64 0, .int .i32 0, .int .i32 0, .int .i32 0, .int .i32 0, .int .i64 0, .int .i64 0, .int .i32 0, .int .i32 0, .int .i32 0, .int .i32 0, .int .i64 0, .int .i64 0, .int .i32 0, .int .i32 0, .int .i32 0, .int .i32 0, .int .i64 0, .int .i64 0, .int .i32 0, .int .i32 0, .int .i32 0, .int .i32 0, .int .i64 0, .int .i64 0, .int .i32 0, .int .i32 0, .int .i32 0, .int .i32 0, .int .i64 0, .int .i64 0]
theorem zeros_eq : zeros36 = rowOf 36 fun j => Value.int (kdP (j % 6)) 0 := by kernel_rfl
theorem zeros_one : ∀ v ∈ zeros36, v.oneCell' = true := fun v hv => by
 rw [zeros_eq] at hv
 obtain ⟨j, -, rfl⟩ := List.mem_map.1 hv; rfl
def bothS (S : Nat → Int) : Nat → Int := putP (putP (upd (upd S 2 (S 2 + 1)) 3 600) 0 (freshP 0)) 1 (freshP 1)
theorem fresh_one : freshBoth.toArray.all (·.oneCell') = true := by decide +kernel
theorem bSetC {B : Nat} {w w' : World} {g : Nat} (h : Below B w w') (hg : B ≤ g) (o : Nat) (vs : List Value) : Below B w (w'.setCells g o vs) := bSetCells h hg o vs
theorem fresh_v : ∀ j, j < freshBoth.length → freshBoth[j]? = some (.int (kdS (4 + j)) (bothS (fun _ => 0) (4 + j))) := by
 intro j hj
 have h : j < 20 := hj
 clear hj
 obtain rfl | rfl | rfl | rfl | rfl | rfl | rfl | rfl | rfl | rfl | rfl | rfl | rfl | rfl | rfl | rfl | rfl | rfl | rfl | rfl : j = 0 ∨ j = 1 ∨ j = 2 ∨ j = 3 ∨ j = 4 ∨ j = 5 ∨ j = 6 ∨ j = 7 ∨ j = 8 ∨ j = 9 ∨ j = 10 ∨ j = 11 ∨ j = 12 ∨ j = 13 ∨ j = 14 ∨ j = 15 ∨ j = 16 ∨ j = 17 ∨ j = 18 ∨ j = 19 := by omega
 all_goals rfl
theorem bothS_mid (S : Nat → Int) (j : Nat) (h4 : 4 ≤ j) (hj : j < 24) : bothS S j = bothS (fun _ => 0) j := by
 unfold bothS putP
 by_cases h : 14 ≤ j
 ·rw [if_pos (by omega), if_pos (by omega)]
 ·rw [if_neg (by omega), if_pos (by omega), if_neg (by omega), if_pos (by omega)]
theorem bothS_far (S : Nat → Int) (j : Nat) (h : j < 4 ∨ 24 ≤ j) : bothS S j = upd (upd S 2 (S 2 + 1)) 3 600 j := by
 unfold bothS
 rw [putP_other _ _ _ _ (by omega), putP_other _ _ _ _ (by omega)]
theorem roundS_over (F : Int) (S : Nat → Int) (L : List Ev) (h : overB S = true) : roundS F (S, L) = (clearS (bothS S), addE F L (evT 0 7 7 32768 12 0 0)) := by
 unfold roundS; exact if_pos h
theorem roundS_on (F : Int) (S : Nat → Int) (L : List Ev) (h : overB S = false) : roundS F (S, L) = (upd S 3 (S 3 - 1), L) := by
 unfold roundS; exact if_neg (by rw [h]; decide)
section
variable {w : World} {g gp base : Nat} {S : Nat → Int} {F : Int} {L : List Ev}
theorem ground_on (h : Stg w g gp base S F L) (h3 : 1 < S 3 ∧ S 3 ≤ 600) (h13 : S 13 < 3) (h23 : S 23 < 3) :
  Calls Tryz.prog 124 #[.pointer (some ⟨g, 0, none⟩)] w fun e w' => e = .returned (.tuple #[]) ∧ Stg w' g gp base (upd S 3 (S 3 - 1)) F L ∧ Below base w w' := by
 obtain ⟨h3a, h3b⟩ := h3
 have hp : 0 < S 3 - 1 := by omega
 have H := zz h
 have hlt := h.lt
 have hbg := h.bg
 have c3 : w.cell? ⟨g, 3, none⟩ = some (.int .i64 (S 3)) := h.st.cell 3 (by decide)
 have c2 : w.cell? ⟨g, 2, none⟩ = some (.int .i64 (S 2)) := h.st.cell 2 (by decide)
 have c13 : w.cell? ⟨g, 13, none⟩ = some (.int .i64 (S 13)) := h.st.cell 13 (by decide)
 have c23 : w.cell? ⟨g, 23, none⟩ = some (.int .i64 (S 23)) := h.st.cell 23 (by decide)
 have z3 := h.st.frozen 3
 have z2 := h.st.frozen 2
 clear h
 go_enter Tryz.func124, Tryz.ntmps124
 go_wp2
 refine bodyPost_ret (results_none rfl _ _ _) rfl ⟨rfl, H.out.set 3 (by decide) rfl _, (Below.refl base w).setCell (p := ⟨g, 3, none⟩) hbg _⟩
end
theorem kd_zero (j : Nat) : kdS (24 + j) = kdP (j % 6) := by
 have := kdS_s (j / 6) (j % 6) (by omega)
 rw [← this]
 congr 1
 omega
section
variable {w : World} {g gp base : Nat} {S : Nat → Int} {F : Int} {L : List Ev}
theorem ground_o1 (h : Stg w g gp base S F L) (hF : 0 ≤ F ∧ F ≤ 1073741824) (h2 : 0 ≤ S 2 ∧ S 2 ≤ 1073741824) (h3 : 1 ≤ S 3 ∧ S 3 ≤ 600) (o1 : S 3 - 1 ≤ 0) (hL : L.length < 63) (hc : cntE L 0 7 ≤ 15) :
  Calls Tryz.prog 124 #[.pointer (some ⟨g, 0, none⟩)] w fun e w' => e = .returned (.tuple #[]) ∧ Stg w' g gp base (clearS (bothS S)) F (addE F L (evT 0 7 7 32768 12 0 0)) ∧ Below base w w' := by
 have HS0 := zz (((((h.set 3 (by decide) (k := .i64) rfl (S 3 - 1)).set 2 (by decide) (k := .i64) rfl (S 2 + 1)).set 3 (by decide) (k := .i64) rfl 600)).as (S' := upd (upd S 2 (S 2 + 1)) 3 600) (by
  funext j; by_cases e3 : j = 3 <;> by_cases e2 : j = 2 <;> simp [upd, e3, e2]))
 have HB0 := zz (((((Below.refl base w).setCell (p := ⟨g, 3, none⟩) h.bg (.int .i64 (S 3 - 1))).setCell (p := ⟨g, 2, none⟩) h.bg (.int .i64 (S 2 + 1))).setCell (p := ⟨g, 3, none⟩) h.bg (.int .i64 600)))
 obtain ⟨h3a, h3b⟩ := h3
 obtain ⟨h2a, h2b⟩ := h2
 have HC := zz hc
 have H := zz h
 have hlt := h.lt
 have hbg := h.bg
 have c3 : w.cell? ⟨g, 3, none⟩ = some (.int .i64 (S 3)) := h.st.cell 3 (by decide)
 have c2 : w.cell? ⟨g, 2, none⟩ = some (.int .i64 (S 2)) := h.st.cell 2 (by decide)
 have c13 : w.cell? ⟨g, 13, none⟩ = some (.int .i64 (S 13)) := h.st.cell 13 (by decide)
 have c23 : w.cell? ⟨g, 23, none⟩ = some (.int .i64 (S 23)) := h.st.cell 23 (by decide)
 have z3 := h.st.frozen 3
 have z2 := h.st.frozen 2
 clear h
 clear hc
 go_enter Tryz.func124, Tryz.ntmps124
 go_wp2_with fail
 refine (gfresh_0 _).mono ?_
 rintro e w1 ⟨rfl, k1⟩
 have H1 := zz (HS0.out.on k1)
 have HB1 := zz (HB0.out.trans (k1.mono HS0.out.bw))
 clear k1
 go_wp2_with fail
 refine (gfresh_1 _).mono ?_
 rintro e w2 ⟨rfl, k2⟩
 have H2 := zz (H1.out.on k2)
 have HB2 := zz (HB1.out.trans (k2.mono H1.out.bw))
 clear k2
 have H3 := zz (H2.out.setRange 4 freshBoth (bothS S) (by decide) (fun j hj => by rw [fresh_v j hj, bothS_mid S (4 + j) (by omega) (by have : j < 20 := hj; omega)]) (fun j _ hj => bothS_far S j (by have : freshBoth.length = 20 := rfl; omega)))
 have HB3 := zz (bSetC HB2.out hbg 4 freshBoth)
 have H4 := zz (H3.out.setRange 24 zeros36 (clearS (bothS S)) (by decide) (fun j hj => by have hj : j < 36 := hj; unfold clearS; rw [if_pos (by omega), zeros_eq]; simp [rowOf, hj, kd_zero j]) (fun j _ hj => by have : zeros36.length = 36 := rfl; unfold clearS; rw [if_neg (by omega)]))
 have HB4 := zz (bSetC HB3.out hbg 24 zeros36)
 have HTH2 := zz (H2.out.there (o := 4) (n := 20) (by decide))
 have HTH3 := zz (H3.out.there (o := 24) (n := 36) (by decide))
 go_upto_region 5 with (first
  | (refine wpList_store_mid rfl 36 (.tmp 56) (.tmp 53) rfl g 4 freshBoth.toArray rfl rfl HTH2.out (by kernel_rfl) fresh_one ?_))
 go_upto_region 6 with (first
  | (refine wpList_store_mid rfl 39 (.tmp 61) (.tmp 58) rfl g 24 zeros36.toArray rfl rfl HTH3.out (by kernel_rfl) (all_oneCell_toArray zeros_one) ?_))
 obtain ⟨w3, hw3⟩ : ∃ w3, (w2.setCells g 4 freshBoth).setCells g 24 zeros36 = w3 := ⟨_, rfl⟩
 rw [hw3] at H4 HB4 ⊢
 clear hw3 HTH2 HTH3 H3 HB3 HB2 H2 HB1 H1 HS0 HB0 H c3 c2 c13 c23 z3 z2
 have hl3 := H4.out.lt
 go_wp2_with fail
 refine (gtell_any 0 7 7 32768 12 0 0 H4.out (by unfold F32; omega) (evT_ok F _ _ _ _ _ _ _ hF (by decide) (by decide) (by decide) (by decide) (by decide) (by decide) 0 (by decide)) (by omega) HC.out).mono ?_
 rintro e w4 ⟨rfl, h4, k4⟩
 have H5 := zz h4
 have HB5 := zz (HB4.out.trans k4)
 clear h4 k4
 go_wp2
 go_end0
 exact ⟨rfl, H5.out, HB5.out⟩
theorem ground_o2 (h : Stg w g gp base S F L) (hF : 0 ≤ F ∧ F ≤ 1073741824) (h2 : 0 ≤ S 2 ∧ S 2 ≤ 1073741824) (h3 : 1 ≤ S 3 ∧ S 3 ≤ 600) (o1 : ¬ S 3 - 1 ≤ 0) (o2 : 3 ≤ S 13) (hL : L.length < 63) (hc : cntE L 0 7 ≤ 15) :
  Calls Tryz.prog 124 #[.pointer (some ⟨g, 0, none⟩)] w fun e w' => e = .returned (.tuple #[]) ∧ Stg w' g gp base (clearS (bothS S)) F (addE F L (evT 0 7 7 32768 12 0 0)) ∧ Below base w w' := by
 have HS0 := zz (((((h.set 3 (by decide) (k := .i64) rfl (S 3 - 1)).set 2 (by decide) (k := .i64) rfl (S 2 + 1)).set 3 (by decide) (k := .i64) rfl 600)).as (S' := upd (upd S 2 (S 2 + 1)) 3 600) (by
  funext j; by_cases e3 : j = 3 <;> by_cases e2 : j = 2 <;> simp [upd, e3, e2]))
 have HB0 := zz (((((Below.refl base w).setCell (p := ⟨g, 3, none⟩) h.bg (.int .i64 (S 3 - 1))).setCell (p := ⟨g, 2, none⟩) h.bg (.int .i64 (S 2 + 1))).setCell (p := ⟨g, 3, none⟩) h.bg (.int .i64 600)))
 obtain ⟨h3a, h3b⟩ := h3
 obtain ⟨h2a, h2b⟩ := h2
 have HC := zz hc
 have H := zz h
 have hlt := h.lt
 have hbg := h.bg
 have c3 : w.cell? ⟨g, 3, none⟩ = some (.int .i64 (S 3)) := h.st.cell 3 (by decide)
 have c2 : w.cell? ⟨g, 2, none⟩ = some (.int .i64 (S 2)) := h.st.cell 2 (by decide)
 have c13 : w.cell? ⟨g, 13, none⟩ = some (.int .i64 (S 13)) := h.st.cell 13 (by decide)
 have c23 : w.cell? ⟨g, 23, none⟩ = some (.int .i64 (S 23)) := h.st.cell 23 (by decide)
 have z3 := h.st.frozen 3
 have z2 := h.st.frozen 2
 clear h
 clear hc
 have o1' : 0 < S 3 - 1 := by omega
 clear o1
 go_enter Tryz.func124, Tryz.ntmps124
 go_wp2_with fail
 refine (gfresh_0 _).mono ?_
 rintro e w1 ⟨rfl, k1⟩
 have H1 := zz (HS0.out.on k1)
 have HB1 := zz (HB0.out.trans (k1.mono HS0.out.bw))
 clear k1
 go_wp2_with fail
 refine (gfresh_1 _).mono ?_
 rintro e w2 ⟨rfl, k2⟩
 have H2 := zz (H1.out.on k2)
 have HB2 := zz (HB1.out.trans (k2.mono H1.out.bw))
 clear k2
 have H3 := zz (H2.out.setRange 4 freshBoth (bothS S) (by decide) (fun j hj => by rw [fresh_v j hj, bothS_mid S (4 + j) (by omega) (by have : j < 20 := hj; omega)]) (fun j _ hj => bothS_far S j (by have : freshBoth.length = 20 := rfl; omega)))
 have HB3 := zz (bSetC HB2.out hbg 4 freshBoth)
 have H4 := zz (H3.out.setRange 24 zeros36 (clearS (bothS S)) (by decide) (fun j hj => by have hj : j < 36 := hj; unfold clearS; rw [if_pos (by omega), zeros_eq]; simp [rowOf, hj, kd_zero j]) (fun j _ hj => by have : zeros36.length = 36 := rfl; unfold clearS; rw [if_neg (by omega)]))
 have HB4 := zz (bSetC HB3.out hbg 24 zeros36)
 have HTH2 := zz (H2.out.there (o := 4) (n := 20) (by decide))
 have HTH3 := zz (H3.out.there (o := 24) (n := 36) (by decide))
 go_upto_region 5 with (first
  | (refine wpList_store_mid rfl 36 (.tmp 56) (.tmp 53) rfl g 4 freshBoth.toArray rfl rfl HTH2.out (by kernel_rfl) fresh_one ?_))
 go_upto_region 6 with (first
  | (refine wpList_store_mid rfl 39 (.tmp 61) (.tmp 58) rfl g 24 zeros36.toArray rfl rfl HTH3.out (by kernel_rfl) (all_oneCell_toArray zeros_one) ?_))
 obtain ⟨w3, hw3⟩ : ∃ w3, (w2.setCells g 4 freshBoth).setCells g 24 zeros36 = w3 := ⟨_, rfl⟩
 rw [hw3] at H4 HB4 ⊢
 clear hw3 HTH2 HTH3 H3 HB3 HB2 H2 HB1 H1 HS0 HB0 H c3 c2 c13 c23 z3 z2
 have hl3 := H4.out.lt
 go_wp2_with fail
 refine (gtell_any 0 7 7 32768 12 0 0 H4.out (by unfold F32; omega) (evT_ok F _ _ _ _ _ _ _ hF (by decide) (by decide) (by decide) (by decide) (by decide) (by decide) 0 (by decide)) (by omega) HC.out).mono ?_
 rintro e w4 ⟨rfl, h4, k4⟩
 have H5 := zz h4
 have HB5 := zz (HB4.out.trans k4)
 clear h4 k4
 go_wp2
 go_end0
 exact ⟨rfl, H5.out, HB5.out⟩
theorem ground_o3 (h : Stg w g gp base S F L) (hF : 0 ≤ F ∧ F ≤ 1073741824) (h2 : 0 ≤ S 2 ∧ S 2 ≤ 1073741824) (h3 : 1 ≤ S 3 ∧ S 3 ≤ 600) (o1 : ¬ S 3 - 1 ≤ 0) (o2 : S 13 < 3) (o3 : 3 ≤ S 23) (hL : L.length < 63) (hc : cntE L 0 7 ≤ 15) :
  Calls Tryz.prog 124 #[.pointer (some ⟨g, 0, none⟩)] w fun e w' => e = .returned (.tuple #[]) ∧ Stg w' g gp base (clearS (bothS S)) F (addE F L (evT 0 7 7 32768 12 0 0)) ∧ Below base w w' := by
 have HS0 := zz (((((h.set 3 (by decide) (k := .i64) rfl (S 3 - 1)).set 2 (by decide) (k := .i64) rfl (S 2 + 1)).set 3 (by decide) (k := .i64) rfl 600)).as (S' := upd (upd S 2 (S 2 + 1)) 3 600) (by
  funext j; by_cases e3 : j = 3 <;> by_cases e2 : j = 2 <;> simp [upd, e3, e2]))
 have HB0 := zz (((((Below.refl base w).setCell (p := ⟨g, 3, none⟩) h.bg (.int .i64 (S 3 - 1))).setCell (p := ⟨g, 2, none⟩) h.bg (.int .i64 (S 2 + 1))).setCell (p := ⟨g, 3, none⟩) h.bg (.int .i64 600)))
 obtain ⟨h3a, h3b⟩ := h3
 obtain ⟨h2a, h2b⟩ := h2
 have HC := zz hc
 have H := zz h
 have hlt := h.lt
 have hbg := h.bg
 have c3 : w.cell? ⟨g, 3, none⟩ = some (.int .i64 (S 3)) := h.st.cell 3 (by decide)
 have c2 : w.cell? ⟨g, 2, none⟩ = some (.int .i64 (S 2)) := h.st.cell 2 (by decide)
 have c13 : w.cell? ⟨g, 13, none⟩ = some (.int .i64 (S 13)) := h.st.cell 13 (by decide)
 have c23 : w.cell? ⟨g, 23, none⟩ = some (.int .i64 (S 23)) := h.st.cell 23 (by decide)
 have z3 := h.st.frozen 3
 have z2 := h.st.frozen 2
 clear h
 clear hc
 have o1' : 0 < S 3 - 1 := by omega
 clear o1
 go_enter Tryz.func124, Tryz.ntmps124
 go_wp2_with fail
 refine (gfresh_0 _).mono ?_
 rintro e w1 ⟨rfl, k1⟩
 have H1 := zz (HS0.out.on k1)
 have HB1 := zz (HB0.out.trans (k1.mono HS0.out.bw))
 clear k1
 go_wp2_with fail
 refine (gfresh_1 _).mono ?_
 rintro e w2 ⟨rfl, k2⟩
 have H2 := zz (H1.out.on k2)
 have HB2 := zz (HB1.out.trans (k2.mono H1.out.bw))
 clear k2
 have H3 := zz (H2.out.setRange 4 freshBoth (bothS S) (by decide) (fun j hj => by rw [fresh_v j hj, bothS_mid S (4 + j) (by omega) (by have : j < 20 := hj; omega)]) (fun j _ hj => bothS_far S j (by have : freshBoth.length = 20 := rfl; omega)))
 have HB3 := zz (bSetC HB2.out hbg 4 freshBoth)
 have H4 := zz (H3.out.setRange 24 zeros36 (clearS (bothS S)) (by decide) (fun j hj => by have hj : j < 36 := hj; unfold clearS; rw [if_pos (by omega), zeros_eq]; simp [rowOf, hj, kd_zero j]) (fun j _ hj => by have : zeros36.length = 36 := rfl; unfold clearS; rw [if_neg (by omega)]))
 have HB4 := zz (bSetC HB3.out hbg 24 zeros36)
 have HTH2 := zz (H2.out.there (o := 4) (n := 20) (by decide))
 have HTH3 := zz (H3.out.there (o := 24) (n := 36) (by decide))
 go_upto_region 5 with (first
  | (refine wpList_store_mid rfl 36 (.tmp 56) (.tmp 53) rfl g 4 freshBoth.toArray rfl rfl HTH2.out (by kernel_rfl) fresh_one ?_))
 go_upto_region 6 with (first
  | (refine wpList_store_mid rfl 39 (.tmp 61) (.tmp 58) rfl g 24 zeros36.toArray rfl rfl HTH3.out (by kernel_rfl) (all_oneCell_toArray zeros_one) ?_))
 obtain ⟨w3, hw3⟩ : ∃ w3, (w2.setCells g 4 freshBoth).setCells g 24 zeros36 = w3 := ⟨_, rfl⟩
 rw [hw3] at H4 HB4 ⊢
 clear hw3 HTH2 HTH3 H3 HB3 HB2 H2 HB1 H1 HS0 HB0 H c3 c2 c13 c23 z3 z2
 have hl3 := H4.out.lt
 go_wp2_with fail
 refine (gtell_any 0 7 7 32768 12 0 0 H4.out (by unfold F32; omega) (evT_ok F _ _ _ _ _ _ _ hF (by decide) (by decide) (by decide) (by decide) (by decide) (by decide) 0 (by decide)) (by omega) HC.out).mono ?_
 rintro e w4 ⟨rfl, h4, k4⟩
 have H5 := zz h4
 have HB5 := zz (HB4.out.trans k4)
 clear h4 k4
 go_wp2
 go_end0
 exact ⟨rfl, H5.out, HB5.out⟩
theorem ground_any (h : Stg w g gp base S F L) (hF : 0 ≤ F ∧ F ≤ 1073741824) (h2 : 0 ≤ S 2 ∧ S 2 ≤ 1073741824) (h3 : 1 ≤ S 3 ∧ S 3 ≤ 600) (hL : L.length < 63) (hc : cntE L 0 7 ≤ 15) :
  Calls Tryz.prog 124 #[.pointer (some ⟨g, 0, none⟩)] w fun e w' => e = .returned (.tuple #[]) ∧ Stg w' g gp base (roundS F (S, L)).1 F (roundS F (S, L)).2 ∧ Below base w w' := by
 cases hov : overB S
 ·rw [roundS_on F S L hov]
  unfold overB at hov
  simp only [Bool.or_eq_false_iff, decide_eq_false_iff_not] at hov
  exact ground_on h ⟨by omega, h3.2⟩ (by omega) (by omega)
 ·rw [roundS_over F S L hov]
  unfold overB at hov
  simp only [Bool.or_eq_true, decide_eq_true_eq] at hov
  by_cases o1 : S 3 - 1 ≤ 0
  ·exact ground_o1 h hF h2 h3 o1 hL hc
  ·by_cases o2 : 3 ≤ S 13
   ·exact ground_o2 h hF h2 h3 o1 o2 hL hc
   ·exact ground_o3 h hF h2 h3 o1 (by omega) (by omega) hL hc
end
end
end Go.Proofs.YtibeihcpehikoaaGreat
