/-
  The walk of a shot's flight.
-/
import Derived.Test.YtibeihcpehikoaaGreatNk25
import Derived.Test.YtibeihcpehikoaaGreatNk26
namespace Go.Proofs.YtibeihcpehikoaaGreat
open Go.RowKit
set_option maxRecDepth 100000
set_option maxHeartbeats 8000000
section
section
variable {S : Nat → Int} {F : Int} {L : List Ev} {k : Nat}
theorem flyT_dead (h : getS S k 5 - 1 = 0) : flyT k F (S, L) = (false, (putS S k (upd (getS S k) 5 (getS S k 5 - 1)), L)) := by
 unfold flyT; exact if_pos h
theorem flyT_out (h : ¬ getS S k 5 - 1 = 0) (ha : arenaB (shotNext (getS S k) 0) (shotNext (getS S k) 1) = false) : flyT k F (S, L) = (false, (putS S k (shotNext (getS S k)), L)) := by
 unfold flyT; exact (if_neg h).trans (if_pos ha)
theorem flyT_hit (h : ¬ getS S k 5 - 1 = 0) (ha : arenaB (shotNext (getS S k) 0) (shotNext (getS S k) 1) = true) (hh : hitB S (shotNext (getS S k)) (otherOf (getS S k 4)) = true) : flyT k F (S, L) = (false, hitS (otherOf (getS S k 4)) F (putS S k (shotNext (getS S k)), L)) := by
 unfold flyT; exact (if_neg h).trans ((if_neg (by rw [ha]; decide)).trans (if_pos hh))
theorem flyT_on (h : ¬ getS S k 5 - 1 = 0) (ha : arenaB (shotNext (getS S k) 0) (shotNext (getS S k) 1) = true) (hh : hitB S (shotNext (getS S k)) (otherOf (getS S k 4)) = false) : flyT k F (S, L) = (true, (putS S k (shotNext (getS S k)), L)) := by
 unfold flyT; exact (if_neg h).trans ((if_neg (by rw [ha]; decide)).trans (if_neg (by rw [hh]; decide)))
end
theorem mildS {w w' : World} {g gp base : Nat} {S : Nat → Int} {F : Int} {L : List Ev} (h : Stg w g gp base S F L) (k : Below w.heap.size w w') : Stg w' g gp base S F L := h.on k
section
variable {w : World} {g gp base : Nat} {S : Nat → Int} {F : Int} {L : List Ev} {k : Nat}
theorem pl_range0 {T : Nat → Int} (h : Stg w g gp base T F L) (hT : ∀ j, j < 24 → T j = S j) : w.rangeAt g 4 [.int .i32 (S 4), .int .i32 (S 5), .int .i32 (S 6), .int .i32 (S 7), .int .i64 (S 8), .int .i64 (S 9), .int .i64 (S 10), .int .i64 (S 11), .int .i64 (S 12), .int .i64 (S 13)] := fun j v hv => by
 have hj : j < 10 := (List.getElem?_eq_some_iff.1 hv).1
 rw [h.st.cell (4 + j) (by omega), ← hv, hT (4 + j) (by omega)]
 have hj : j = 0 ∨ j = 1 ∨ j = 2 ∨ j = 3 ∨ j = 4 ∨ j = 5 ∨ j = 6 ∨ j = 7 ∨ j = 8 ∨ j = 9 := by omega
 rcases hj with rfl | rfl | rfl | rfl | rfl | rfl | rfl | rfl | rfl | rfl <;> rfl
theorem pl_range1 {T : Nat → Int} (h : Stg w g gp base T F L) (hT : ∀ j, j < 24 → T j = S j) : w.rangeAt g 14 [.int .i32 (S 14), .int .i32 (S 15), .int .i32 (S 16), .int .i32 (S 17), .int .i64 (S 18), .int .i64 (S 19), .int .i64 (S 20), .int .i64 (S 21), .int .i64 (S 22), .int .i64 (S 23)] := fun j v hv => by
 have hj : j < 10 := (List.getElem?_eq_some_iff.1 hv).1
 rw [h.st.cell (14 + j) (by omega), ← hv, hT (14 + j) (by omega)]
 have hj : j = 0 ∨ j = 1 ∨ j = 2 ∨ j = 3 ∨ j = 4 ∨ j = 5 ∨ j = 6 ∨ j = 7 ∨ j = 8 ∨ j = 9 := by omega
 rcases hj with rfl | rfl | rfl | rfl | rfl | rfl | rfl | rfl | rfl | rfl <;> rfl
theorem fly_dead (h : Stg w g gp base S F L) (hk : k < 6) (hm : StM S) (hd : getS S k 5 - 1 = 0) :
  Calls Tryz.prog 123 #[.pointer (some ⟨g, 0, none⟩), .pointer (some ⟨g, 24 + k * 6, none⟩)] w fun e w' => e = .returned (.bool (flyT k F (S, L)).1) ∧ Stg w' g gp base (flyT k F (S, L)).2.1 F (flyT k F (S, L)).2.2 ∧ Below base w w' := by
 have HE := zz (flyT_dead (F := F) (L := L) hd)
 have hs := hm.sh k hk
 have h1 := h.as (putS_get S k).symm
 obtain ⟨x, hx⟩ : ∃ x, getS S k = x := ⟨_, rfl⟩
 rw [hx] at hs h1
 have hT : ∀ j, j < 24 → putS S k (shotNext x) j = S j := fun j hj => putS_other S k _ j (.inl (by omega))
 have hlt := h.lt
 have hbg := h.bg
 have c0 : w.cell? ⟨g, 24 + k * 6, none⟩ = some (.int .i32 (x 0)) := by have := h1.cellS0 hk; rwa [show putS S k x (24 + k * 6) = x 0 from putS_at S k x 0 (by decide)] at this
 have c1 : w.cell? ⟨g, 24 + k * 6 + 1, none⟩ = some (.int .i32 (x 1)) := by have := h1.cellS hk 1 (by decide) (kd := .i32) rfl; rwa [putS_at S k x 1 (by decide)] at this
 have c2 : w.cell? ⟨g, 24 + k * 6 + 2, none⟩ = some (.int .i32 (x 2)) := by have := h1.cellS hk 2 (by decide) (kd := .i32) rfl; rwa [putS_at S k x 2 (by decide)] at this
 have c3 : w.cell? ⟨g, 24 + k * 6 + 3, none⟩ = some (.int .i32 (x 3)) := by have := h1.cellS hk 3 (by decide) (kd := .i32) rfl; rwa [putS_at S k x 3 (by decide)] at this
 have c4 : w.cell? ⟨g, 24 + k * 6 + 4, none⟩ = some (.int .i64 (x 4)) := by have := h1.cellS hk 4 (by decide) (kd := .i64) rfl; rwa [putS_at S k x 4 (by decide)] at this
 have c5 : w.cell? ⟨g, 24 + k * 6 + 5, none⟩ = some (.int .i64 (x 5)) := by have := h1.cellS hk 5 (by decide) (kd := .i64) rfl; rwa [putS_at S k x 5 (by decide)] at this
 have z5 := h1.st.frozen (24 + k * 6 + 5)
 have hk2 : (k : Int) < 6 := by omega
 obtain ⟨l0, l1⟩ := hs.lf
 obtain ⟨v, hv⟩ : ∃ v, x 5 - 1 = v := ⟨_, rfl⟩
 rw [hx] at hd HE
 have h5 : x 5 = 1 := by omega
 have h2 := h1.setS hk 5 (by decide) (kd := .i64) rfl 0
 have HU := zz (show upd x 5 (x 5 - 1) = upd x 5 0 by rw [hd])
 rw [h5] at c5
 have H2 := zz h2
 clear h h1 h2 hx hs hd h5 hv hT hm c0 c1 c2 c3 c4 l0 l1 v
 go_enter Tryz.func123, Tryz.ntmps123
 go_wp2
 go_ret
 rw [HE.out, HU.out]
 exact ⟨rfl, H2.out, (Below.refl base w).setCell (p := ⟨g, 24 + k * 6 + 5, none⟩) hbg _⟩
theorem fly_out (h : Stg w g gp base S F L) (hk : k < 6) (hm : StM S) (h4 : getS S k 4 ≠ 0) (hn : ¬ getS S k 5 - 1 = 0) (ha : arenaB (shotNext (getS S k) 0) (shotNext (getS S k) 1) = false) :
  Calls Tryz.prog 123 #[.pointer (some ⟨g, 0, none⟩), .pointer (some ⟨g, 24 + k * 6, none⟩)] w fun e w' => e = .returned (.bool (flyT k F (S, L)).1) ∧ Stg w' g gp base (flyT k F (S, L)).2.1 F (flyT k F (S, L)).2.2 ∧ Below base w w' := by
 have HE := zz (flyT_out (F := F) (L := L) hn ha)
 have hs := hm.sh k hk
 have h1 := h.as (putS_get S k).symm
 obtain ⟨x, hx⟩ : ∃ x, getS S k = x := ⟨_, rfl⟩
 rw [hx] at hs h1
 have hT : ∀ j, j < 24 → putS S k (shotNext x) j = S j := fun j hj => putS_other S k _ j (.inl (by omega))
 have hlt := h.lt
 have hbg := h.bg
 have c0 : w.cell? ⟨g, 24 + k * 6, none⟩ = some (.int .i32 (x 0)) := by have := h1.cellS0 hk; rwa [show putS S k x (24 + k * 6) = x 0 from putS_at S k x 0 (by decide)] at this
 have c1 : w.cell? ⟨g, 24 + k * 6 + 1, none⟩ = some (.int .i32 (x 1)) := by have := h1.cellS hk 1 (by decide) (kd := .i32) rfl; rwa [putS_at S k x 1 (by decide)] at this
 have c2 : w.cell? ⟨g, 24 + k * 6 + 2, none⟩ = some (.int .i32 (x 2)) := by have := h1.cellS hk 2 (by decide) (kd := .i32) rfl; rwa [putS_at S k x 2 (by decide)] at this
 have c3 : w.cell? ⟨g, 24 + k * 6 + 3, none⟩ = some (.int .i32 (x 3)) := by have := h1.cellS hk 3 (by decide) (kd := .i32) rfl; rwa [putS_at S k x 3 (by decide)] at this
 have c4 : w.cell? ⟨g, 24 + k * 6 + 4, none⟩ = some (.int .i64 (x 4)) := by have := h1.cellS hk 4 (by decide) (kd := .i64) rfl; rwa [putS_at S k x 4 (by decide)] at this
 have c5 : w.cell? ⟨g, 24 + k * 6 + 5, none⟩ = some (.int .i64 (x 5)) := by have := h1.cellS hk 5 (by decide) (kd := .i64) rfl; rwa [putS_at S k x 5 (by decide)] at this
 have z5 := h1.st.frozen (24 + k * 6 + 5)
 have hk2 : (k : Int) < 6 := by omega
 obtain ⟨l0, l1⟩ := hs.lf
 obtain ⟨v, hv⟩ : ∃ v, x 5 - 1 = v := ⟨_, rfl⟩
 rw [hx] at hn ha HE h4
 have hon := hs.on h4
 have HN := zz hn
 have hv0 : (v == 0) = false := by rw [← hv]; simpa using hn
 have hvr : 0 ≤ v ∧ v ≤ 40 := by omega
 obtain ⟨hv1, hv2⟩ := hvr
 obtain ⟨X, hX⟩ : ∃ X, padd (x 0) (x 2) = X := ⟨_, rfl⟩
 obtain ⟨Y, hY⟩ : ∃ Y, padd (x 1) (x 3) = Y := ⟨_, rfl⟩
 have HY := zz (show shotNext x = upd (upd (upd x 5 v) 0 X) 1 Y by unfold shotNext; rw [hv, hX, hY])
 have HX0 := zz (show shotNext x 0 = X by unfold shotNext; rw [← hX]; rfl)
 have HX1 := zz (show shotNext x 1 = Y by unfold shotNext; rw [← hY]; rfl)
 have HADD : Hid (∀ W, Calls Tryz.prog 194 #[.agg #[.int .i32 (x 0), .int .i32 (x 1)], .agg #[.int .i32 (x 2), .int .i32 (x 3)]] W fun e w' => e = .returned (.agg #[.int .i32 X, .int .i32 Y]) ∧ Below W.heap.size W w') := by rw [← hX, ← hY]; exact fun W => sAdd_any (by have := hs.ax; unfold F32; omega) (by have := hs.ay; unfold F32; omega) hs.wx hs.wy W
 have HI := zz (show insideB (-4194304) (-4194304) 4194304 4194304 X Y = false by rw [← HX0.out, ← HX1.out]; exact ha)
 have FX := zz (show F32 X by rw [← hX]; exact sat_bd _)
 have FY := zz (show F32 Y by rw [← hY]; exact sat_bd _)
 have H1 := zz (h1.setS hk 5 (by decide) (kd := .i64) rfl v)
 have HB1 := zz (bSetB6 (Below.refl base w) hbg (24 + k * 6 + 5) (.int .i64 v))
 have ho0 := hs.ow
 clear hX hY hn ha h1
 have HV := zz hv
 rw [HE.out]
 clear h hx hs hT hm ho0
 go_enter Tryz.func123, Tryz.ntmps123
 go_upto_region 4 with fail
 obtain ⟨w1, hw1⟩ : ∃ w1, w1 = w.setCell ⟨g, 24 + k * 6 + 5, none⟩ (.int .i64 v) := ⟨_, rfl⟩
 rw [← hw1] at H1 HB1 ⊢
 have b0 : w1.cell? ⟨g, 24 + k * 6, none⟩ = some (.int .i32 (x 0)) := by have := H1.out.cellS0 hk; rwa [show putS S k (upd x 5 v) (24 + k * 6) = x 0 from putS_at S k (upd x 5 v) 0 (by decide)] at this
 have b1 : w1.cell? ⟨g, 24 + k * 6 + 1, none⟩ = some (.int .i32 (x 1)) := by have := H1.out.cellS hk 1 (by decide) (kd := .i32) rfl; rwa [putS_at S k (upd x 5 v) 1 (by decide)] at this
 have b2 : w1.cell? ⟨g, 24 + k * 6 + 2, none⟩ = some (.int .i32 (x 2)) := by have := H1.out.cellS hk 2 (by decide) (kd := .i32) rfl; rwa [putS_at S k (upd x 5 v) 2 (by decide)] at this
 have b3 : w1.cell? ⟨g, 24 + k * 6 + 3, none⟩ = some (.int .i32 (x 3)) := by have := H1.out.cellS hk 3 (by decide) (kd := .i32) rfl; rwa [putS_at S k (upd x 5 v) 3 (by decide)] at this
 have hl1 := H1.out.lt
 clear hw1 c0 c1 c2 c3 c4 c5 z5
 go_cut [] (fun wx => Stg wx g gp base (putS S k (shotNext x)) F L ∧ Below base w wx)
 case first =>
  go_region_law (first | (go_simp; go_at_call 194; refine (HADD.out _).mono ?_; rintro e w2 ⟨rfl, k2⟩; have h2 := H1.out.drew.on k2; have q0 := h2.cellS0 hk; have q1 := h2.cellS hk 1 (by decide) (kd := .i32) rfl; have y0 := h2.st.frozen (24 + k * 6); have y1 := h2.st.frozen (24 + k * 6 + 1); dsimp only))
  all_goals
   have H3 := zz ((h2.setS hk 0 (by decide) (kd := .i32) rfl X).setS hk 1 (by decide) (kd := .i32) rfl Y)
   have HB3 := zz (bSetB6 (bSetB6 (HB1.out.drew.trans (k2.mono H1.out.drew.bw)) hbg (24 + k * 6 + 0) (.int .i32 X)) hbg (24 + k * 6 + 1) (.int .i32 Y))
   rw [← HY.out] at H3
   clear q0 q1 y0 y1 b0 b1 b2 b3
   go_wp2_with fail
   go_meet
   exact ⟨H3.out, HB3.out⟩
 case rest =>
  obtain ⟨hc1, hc2⟩ := hcut
  have H3 := zz hc1
  have HB3 := zz hc2
  clear hc1 hc2 b0 b1 b2 b3 H1 HB1
  obtain ⟨w3, hw3⟩ : ∃ w3, w3 = wc := ⟨_, rfl⟩
  rw [← hw3] at H3 HB3 ⊢
  clear hw3
  have b0 : w3.cell? ⟨g, 24 + k * 6, none⟩ = some (.int .i32 X) := by have := H3.out.cellS0 hk; rwa [show putS S k (shotNext x) (24 + k * 6) = shotNext x 0 from putS_at S k _ 0 (by decide), HX0.out] at this
  have b1 : w3.cell? ⟨g, 24 + k * 6 + 1, none⟩ = some (.int .i32 Y) := by have := H3.out.cellS hk 1 (by decide) (kd := .i32) rfl; rwa [putS_at S k _ 1 (by decide), HX1.out] at this
  have hl3 := H3.out.lt
  go_wp2_with fail
  refine wp_region_mild (by kernel_rfl) (by kernel_rfl) ?_
  repeat (go_big_quiet_step ((first | (go_at_call 196; exact mild_of (garena_any _)) | (go_at_call 195; exact mild_of (gins _ _ _ _ _ _ _ _ HI.out)))))
  refine wpQuiet_nil ?_
  intro w4 hw'
  obtain ⟨⟨wq, k4⟩, hw''⟩ := hw'
  subst hw''
  have H4 := zz (mildS H3.out k4)
  have HB4 := zz (HB3.out.trans (k4.mono H3.out.bw))
  clear k4 b0 b1 H3 HB3
  go_wp2
  go_ret
  exact ⟨rfl, H4.out, HB4.out⟩
theorem fly_at0 (h : Stg w g gp base S F L) (hk : k < 6) (hm : StM S) (h4 : getS S k 4 ≠ 0) (h40 : getS S k 4 = 2) (hn : ¬ getS S k 5 - 1 = 0) (ha : arenaB (shotNext (getS S k) 0) (shotNext (getS S k) 1) = true) (hF : 0 ≤ F ∧ F ≤ 1073741824) (hL : L.length < 63) (hc2 : cntE L 1 2 ≤ 15) (hc5 : cntE L 1 5 ≤ 15) : Calls Tryz.prog 123 #[.pointer (some ⟨g, 0, none⟩), .pointer (some ⟨g, 24 + k * 6, none⟩)] w fun e w' => e = .returned (.bool (flyT k F (S, L)).1) ∧ Stg w' g gp base (flyT k F (S, L)).2.1 F (flyT k F (S, L)).2.2 ∧ Below base w w' := by
  have hoth : otherOf (getS S k 4) = 0 := by rw [h40]; rfl
  obtain ⟨db, hdb⟩ : ∃ db, (S 12 == 0) = db := ⟨_, rfl⟩
  obtain ⟨tb, htb⟩ : ∃ tb, touchB (shotNext (getS S k) 0) (shotNext (getS S k) 1) 65536 (S 4) (S 5) 262144 = tb := ⟨_, rfl⟩
  have hhit : hitB S (shotNext (getS S k)) (otherOf (getS S k 4)) = (db && tb) := by
    rw [hoth]
    unfold hitB
    rw [show touchB (shotNext (getS S k) 0) (shotNext (getS S k) 1) 65536 (S (4 + 0 * 10)) (S (4 + 0 * 10 + 1)) 262144 = tb from htb, show decide (S (4 + 0 * 10 + 8) = 0) = db from hdb]
  have HE : Hid (flyT k F (S, L) = if (db && tb) = true then (false, hitS 0 F (putS S k (shotNext (getS S k)), L)) else (true, (putS S k (shotNext (getS S k)), L))) := zz (by
    cases hbt : (db && tb)
    · rw [if_neg (by decide)]; exact flyT_on (F := F) (L := L) hn ha (hhit.trans hbt)
    · rw [if_pos rfl, ← hoth]; exact flyT_hit (F := F) (L := L) hn ha (hhit.trans hbt))
  have hpl := hm.pl 0 (by decide)
  have HH5 : Hid (db = true → 1 ≤ S 9 ∧ S 9 ≤ 3) := zz (fun hd => by have h1 : 0 < S 9 ↔ S 12 = 0 := hpl.up; have h2 : 0 ≤ S 9 ∧ S 9 ≤ 3 := hpl.hp; have := h1.2 (by rw [hd] at hdb; simpa using hdb); omega)
  have HH9 : Hid (0 ≤ S 23 ∧ S 23 ≤ 100) := zz (by have h1 : 0 ≤ S 23 ∧ S 23 ≤ 3 := (hm.pl 1 (by decide)).sc; omega)
  have HFX : Hid (F32 (S 4)) := zz (by have : -3932160 ≤ S 4 ∧ S 4 ≤ 3932160 := hpl.ax; unfold F32; omega)
  have HFY : Hid (F32 (S 5)) := zz (by have : -3932160 ≤ S 5 ∧ S 5 ≤ 3932160 := hpl.ay; unfold F32; omega)
  have HL := zz hL
  have HC2 := zz hc2
  have HC5 := zz hc5
  clear hhit hoth hpl hL hc2 hc5
  have hs := hm.sh k hk
  have h1 := h.as (putS_get S k).symm
  obtain ⟨x, hx⟩ : ∃ x, getS S k = x := ⟨_, rfl⟩
  rw [hx] at hs h1
  have hT : ∀ j, j < 24 → putS S k (shotNext x) j = S j := fun j hj => putS_other S k _ j (.inl (by omega))
  have hlt := h.lt
  have hbg := h.bg
  have c0 : w.cell? ⟨g, 24 + k * 6, none⟩ = some (.int .i32 (x 0)) := by have := h1.cellS0 hk; rwa [show putS S k x (24 + k * 6) = x 0 from putS_at S k x 0 (by decide)] at this
  have c1 : w.cell? ⟨g, 24 + k * 6 + 1, none⟩ = some (.int .i32 (x 1)) := by have := h1.cellS hk 1 (by decide) (kd := .i32) rfl; rwa [putS_at S k x 1 (by decide)] at this
  have c2 : w.cell? ⟨g, 24 + k * 6 + 2, none⟩ = some (.int .i32 (x 2)) := by have := h1.cellS hk 2 (by decide) (kd := .i32) rfl; rwa [putS_at S k x 2 (by decide)] at this
  have c3 : w.cell? ⟨g, 24 + k * 6 + 3, none⟩ = some (.int .i32 (x 3)) := by have := h1.cellS hk 3 (by decide) (kd := .i32) rfl; rwa [putS_at S k x 3 (by decide)] at this
  have c4 : w.cell? ⟨g, 24 + k * 6 + 4, none⟩ = some (.int .i64 (x 4)) := by have := h1.cellS hk 4 (by decide) (kd := .i64) rfl; rwa [putS_at S k x 4 (by decide)] at this
  have c5 : w.cell? ⟨g, 24 + k * 6 + 5, none⟩ = some (.int .i64 (x 5)) := by have := h1.cellS hk 5 (by decide) (kd := .i64) rfl; rwa [putS_at S k x 5 (by decide)] at this
  have z5 := h1.st.frozen (24 + k * 6 + 5)
  have hk2 : (k : Int) < 6 := by omega
  obtain ⟨l0, l1⟩ := hs.lf
  obtain ⟨v, hv⟩ : ∃ v, x 5 - 1 = v := ⟨_, rfl⟩
  rw [hx] at hn ha HE h4
  have hon := hs.on h4
  have HN := zz hn
  have hv0 : (v == 0) = false := by rw [← hv]; simpa using hn
  have hvr : 0 ≤ v ∧ v ≤ 40 := by omega
  obtain ⟨hv1, hv2⟩ := hvr
  obtain ⟨X, hX⟩ : ∃ X, padd (x 0) (x 2) = X := ⟨_, rfl⟩
  obtain ⟨Y, hY⟩ : ∃ Y, padd (x 1) (x 3) = Y := ⟨_, rfl⟩
  have HY := zz (show shotNext x = upd (upd (upd x 5 v) 0 X) 1 Y by unfold shotNext; rw [hv, hX, hY])
  have HX0 := zz (show shotNext x 0 = X by unfold shotNext; rw [← hX]; rfl)
  have HX1 := zz (show shotNext x 1 = Y by unfold shotNext; rw [← hY]; rfl)
  have HADD : Hid (∀ W, Calls Tryz.prog 194 #[.agg #[.int .i32 (x 0), .int .i32 (x 1)], .agg #[.int .i32 (x 2), .int .i32 (x 3)]] W fun e w' => e = .returned (.agg #[.int .i32 X, .int .i32 Y]) ∧ Below W.heap.size W w') := by rw [← hX, ← hY]; exact fun W => sAdd_any (by have := hs.ax; unfold F32; omega) (by have := hs.ay; unfold F32; omega) hs.wx hs.wy W
  have HI := zz (show insideB (-4194304) (-4194304) 4194304 4194304 X Y = true by rw [← HX0.out, ← HX1.out]; exact ha)
  have FX := zz (show F32 X by rw [← hX]; exact sat_bd _)
  have FY := zz (show F32 Y by rw [← hY]; exact sat_bd _)
  have H1 := zz (h1.setS hk 5 (by decide) (kd := .i64) rfl v)
  have HB1 := zz (bSetB6 (Below.refl base w) hbg (24 + k * 6 + 5) (.int .i64 v))
  have ho0 := hs.ow
  clear hX hY hn ha h1
  have H40 := zz h40
  rw [hx] at H40
  have HV := zz hv
  rw [HE.out]
  rw [hx, HX0.out, HX1.out] at htb
  have HTO : Hid (∀ W, Calls Tryz.prog 192 #[.agg #[.int .i32 X, .int .i32 Y], .int .i32 65536, .agg #[.int .i32 (S 4), .int .i32 (S 5)], .int .i32 262144] W fun e w' => e = .returned (.bool tb) ∧ Below W.heap.size W w') := zz (fun W => by rw [← htb]; exact sTouch_any FX.out FY.out (by unfold F32; omega) HFX.out HFY.out (by unfold F32; omega) W)
  clear h hx hs hT hm ho0 h40 htb h4 HE
  go_enter Tryz.func123, Tryz.ntmps123
  go_upto_region 4 with fail
  obtain ⟨w1, hw1⟩ : ∃ w1, w1 = w.setCell ⟨g, 24 + k * 6 + 5, none⟩ (.int .i64 v) := ⟨_, rfl⟩
  rw [← hw1] at H1 HB1 ⊢
  have b0 : w1.cell? ⟨g, 24 + k * 6, none⟩ = some (.int .i32 (x 0)) := by have := H1.out.cellS0 hk; rwa [show putS S k (upd x 5 v) (24 + k * 6) = x 0 from putS_at S k (upd x 5 v) 0 (by decide)] at this
  have b1 : w1.cell? ⟨g, 24 + k * 6 + 1, none⟩ = some (.int .i32 (x 1)) := by have := H1.out.cellS hk 1 (by decide) (kd := .i32) rfl; rwa [putS_at S k (upd x 5 v) 1 (by decide)] at this
  have b2 : w1.cell? ⟨g, 24 + k * 6 + 2, none⟩ = some (.int .i32 (x 2)) := by have := H1.out.cellS hk 2 (by decide) (kd := .i32) rfl; rwa [putS_at S k (upd x 5 v) 2 (by decide)] at this
  have b3 : w1.cell? ⟨g, 24 + k * 6 + 3, none⟩ = some (.int .i32 (x 3)) := by have := H1.out.cellS hk 3 (by decide) (kd := .i32) rfl; rwa [putS_at S k (upd x 5 v) 3 (by decide)] at this
  have hl1 := H1.out.lt
  clear hw1 c0 c1 c2 c3 c4 c5 z5
  go_cut [] (fun wx => Stg wx g gp base (putS S k (shotNext x)) F L ∧ Below base w wx)
  case first =>
    go_region_law (first | (go_simp; go_at_call 194; refine (HADD.out _).mono ?_; rintro e w2 ⟨rfl, k2⟩; have h2 := H1.out.drew.on k2; have q0 := h2.cellS0 hk; have q1 := h2.cellS hk 1 (by decide) (kd := .i32) rfl; have y0 := h2.st.frozen (24 + k * 6); have y1 := h2.st.frozen (24 + k * 6 + 1); dsimp only))
    all_goals
      have H3 := zz ((h2.setS hk 0 (by decide) (kd := .i32) rfl X).setS hk 1 (by decide) (kd := .i32) rfl Y)
      have HB3 := zz (bSetB6 (bSetB6 (HB1.out.drew.trans (k2.mono H1.out.drew.bw)) hbg (24 + k * 6 + 0) (.int .i32 X)) hbg (24 + k * 6 + 1) (.int .i32 Y))
      rw [← HY.out] at H3
      clear q0 q1 y0 y1 b0 b1 b2 b3
      go_wp2_with fail
      go_meet
      exact ⟨H3.out, HB3.out⟩
  case rest =>
    obtain ⟨hc1, hc2⟩ := hcut
    have H3 := zz hc1
    have HB3 := zz hc2
    clear hc1 hc2 b0 b1 b2 b3 H1 HB1
    obtain ⟨w3, hw3⟩ : ∃ w3, w3 = wc := ⟨_, rfl⟩
    rw [← hw3] at H3 HB3 ⊢
    clear hw3
    have b0 : w3.cell? ⟨g, 24 + k * 6, none⟩ = some (.int .i32 X) := by have := H3.out.cellS0 hk; rwa [show putS S k (shotNext x) (24 + k * 6) = shotNext x 0 from putS_at S k _ 0 (by decide), HX0.out] at this
    have b1 : w3.cell? ⟨g, 24 + k * 6 + 1, none⟩ = some (.int .i32 Y) := by have := H3.out.cellS hk 1 (by decide) (kd := .i32) rfl; rwa [putS_at S k _ 1 (by decide), HX1.out] at this
    have hl3 := H3.out.lt
    go_wp2_with fail
    refine wp_region_mild (by kernel_rfl) (by kernel_rfl) ?_
    repeat (go_big_quiet_step ((first | (go_at_call 196; exact mild_of (garena_any _)) | (go_at_call 195; exact mild_of (gins _ _ _ _ _ _ _ _ HI.out)))))
    refine wpQuiet_nil ?_
    intro w4 hw'
    obtain ⟨⟨wq, k4⟩, hw''⟩ := hw'
    subst hw''
    have H4 := zz (mildS H3.out k4)
    have HB4 := zz (HB3.out.trans (k4.mono H3.out.bw))
    clear k4 b0 b1 H3 HB3
    have hcs : db = false ∨ (db = true ∧ tb = false) ∨ (db = true ∧ tb = true) := by
      cases db
      · exact .inl rfl
      · cases tb
        · exact .inr (.inl ⟨rfl, rfl⟩)
        · exact .inr (.inr ⟨rfl, rfl⟩)
    rcases hcs with rfl | ⟨rfl, rfl⟩ | ⟨rfl, rfl⟩
    all_goals
      have HT2 : Hid (∀ j, j < 24 → putS S k (shotNext x) j = S j) := zz (fun j hj => putS_other S k _ j (.inl (by omega)))
      have b4 : w4.cell? ⟨g, 24 + k * 6 + 4, none⟩ = some (.int .i64 2) := by have := H4.out.cellS hk 4 (by decide) (kd := .i64) rfl; rwa [putS_at S k _ 4 (by decide), show shotNext x 4 = x 4 from rfl, H40.out] at this
      have b0 : w4.cell? ⟨g, 24 + k * 6, none⟩ = some (.int .i32 X) := by have := H4.out.cellS0 hk; rwa [show putS S k (shotNext x) (24 + k * 6) = shotNext x 0 from putS_at S k _ 0 (by decide), HX0.out] at this
      have b1 : w4.cell? ⟨g, 24 + k * 6 + 1, none⟩ = some (.int .i32 Y) := by have := H4.out.cellS hk 1 (by decide) (kd := .i32) rfl; rwa [putS_at S k _ 1 (by decide), HX1.out] at this
      have hl4 := H4.out.lt
      go_upto_region 9 with (first | (refine wpList_load_mid rfl 35 (.tmp 48) rfl g 4 rfl [.int .i32 (S 4), .int .i32 (S 5), .int .i32 (S 6), .int .i32 (S 7), .int .i64 (S 8), .int .i64 (S 9), .int .i64 (S 10), .int .i64 (S 11), .int .i64 (S 12), .int .i64 (S 13)] _ (pl_range0 H4.out HT2.out) Tryz.underlying35 rfl (by kernel_rfl) ?_))
      have hk5 : Blk (w4.alloc (.cells #[.int .i32 (S 4), .int .i32 (S 5), .int .i32 (S 6), .int .i32 (S 7), .int .i64 (S 8), .int .i64 (S 9), .int .i64 (S 10), .int .i64 (S 11), .int .i64 (S 12), .int .i64 (S 13)] 35)) w4.heap.size 35 #[.int .i32 (S 4), .int .i32 (S 5), .int .i32 (S 6), .int .i32 (S 7), .int .i64 (S 8), .int .i64 (S 9), .int .i64 (S 10), .int .i64 (S 11), .int .i64 (S 12), .int .i64 (S 13)] := Blk.new _ _ _
      obtain ⟨w5, hw5⟩ : ∃ w5, w5 = w4.alloc (.cells #[.int .i32 (S 4), .int .i32 (S 5), .int .i32 (S 6), .int .i32 (S 7), .int .i64 (S 8), .int .i64 (S 9), .int .i64 (S 10), .int .i64 (S 11), .int .i64 (S 12), .int .i64 (S 13)] 35) := ⟨_, rfl⟩
      have H5 : Hid (Stg w5 g gp base (putS S k (shotNext x)) F L) := by rw [hw5]; exact zz (H4.out.alloc _)
      have HB5 : Hid (Below base w w5) := by rw [hw5]; exact zz (HB4.out.alloc H4.out.bw _)
      have d0 : w5.cell? ⟨g, 24 + k * 6, none⟩ = some (.int .i32 X) := by have := H5.out.cellS0 hk; rwa [show putS S k (shotNext x) (24 + k * 6) = shotNext x 0 from putS_at S k _ 0 (by decide), HX0.out] at this
      have d1 : w5.cell? ⟨g, 24 + k * 6 + 1, none⟩ = some (.int .i32 Y) := by have := H5.out.cellS hk 1 (by decide) (kd := .i32) rfl; rwa [putS_at S k _ 1 (by decide), HX1.out] at this
      rw [← hw5] at hk5 ⊢
      have e0 := hk5.cell 0
      have e1 := hk5.cell 1
      have e8 := hk5.cell 8
      have e6 := hk5.cell 6
      simp only [zA, zB, zC] at e0 e1 e8 e6
      have hl5 := H5.out.lt
      have hl6 := hk5.lt
      clear hw5 hk5 b0 b1 b4 H4 HB4
      refine wp_region_mild (by kernel_rfl) (by kernel_rfl) ?_
      repeat (go_big_quiet_step ((go_at_call 192; exact mild_of (HTO.out _))))
      refine wpQuiet_nil ?_
      intro w6 hw'
      obtain ⟨⟨wq, k6⟩, hw''⟩ := hw'
      subst hw''
      have H6 := zz (mildS H5.out k6)
      have HB6 := zz (HB5.out.trans (k6.mono H5.out.bw))
      clear k6 d0 d1 e0 e1 e8 e6 H5 HB5
      first
        | (go_wp2_with fail
           refine (ghit_0 H6.out hF (by rw [HT2.out 4 (by decide)]; exact HFX.out) (by rw [HT2.out 9 (by decide)]; first | exact HH5.out rfl | exact HH5.out trivial | exact HH5.out) (by rw [HT2.out 23 (by decide)]; exact HH9.out) HL.out HC2.out HC5.out).mono ?_
           rintro e w7 ⟨rfl, h7, k7⟩
           have H6 := zz h7
           have HB6 := zz (HB6.out.trans k7)
           clear h7 k7
           go_wp2
           go_ret
           exact ⟨rfl, H6.out, HB6.out⟩)
        | (go_wp2
           go_ret
           exact ⟨rfl, H6.out, HB6.out⟩)
theorem fly_at1 (h : Stg w g gp base S F L) (hk : k < 6) (hm : StM S) (h4 : getS S k 4 ≠ 0) (h40 : getS S k 4 = 1) (hn : ¬ getS S k 5 - 1 = 0) (ha : arenaB (shotNext (getS S k) 0) (shotNext (getS S k) 1) = true) (hF : 0 ≤ F ∧ F ≤ 1073741824) (hL : L.length < 63) (hc2 : cntE L 2 2 ≤ 15) (hc5 : cntE L 2 5 ≤ 15) : Calls Tryz.prog 123 #[.pointer (some ⟨g, 0, none⟩), .pointer (some ⟨g, 24 + k * 6, none⟩)] w fun e w' => e = .returned (.bool (flyT k F (S, L)).1) ∧ Stg w' g gp base (flyT k F (S, L)).2.1 F (flyT k F (S, L)).2.2 ∧ Below base w w' := by
  have hoth : otherOf (getS S k 4) = 1 := by rw [h40]; rfl
  obtain ⟨db, hdb⟩ : ∃ db, (S 22 == 0) = db := ⟨_, rfl⟩
  obtain ⟨tb, htb⟩ : ∃ tb, touchB (shotNext (getS S k) 0) (shotNext (getS S k) 1) 65536 (S 14) (S 15) 262144 = tb := ⟨_, rfl⟩
  have hhit : hitB S (shotNext (getS S k)) (otherOf (getS S k 4)) = (db && tb) := by
    rw [hoth]
    unfold hitB
    rw [show touchB (shotNext (getS S k) 0) (shotNext (getS S k) 1) 65536 (S (4 + 1 * 10)) (S (4 + 1 * 10 + 1)) 262144 = tb from htb, show decide (S (4 + 1 * 10 + 8) = 0) = db from hdb]
  have HE : Hid (flyT k F (S, L) = if (db && tb) = true then (false, hitS 1 F (putS S k (shotNext (getS S k)), L)) else (true, (putS S k (shotNext (getS S k)), L))) := zz (by
    cases hbt : (db && tb)
    · rw [if_neg (by decide)]; exact flyT_on (F := F) (L := L) hn ha (hhit.trans hbt)
    · rw [if_pos rfl, ← hoth]; exact flyT_hit (F := F) (L := L) hn ha (hhit.trans hbt))
  have hpl := hm.pl 1 (by decide)
  have HH5 : Hid (db = true → 1 ≤ S 19 ∧ S 19 ≤ 3) := zz (fun hd => by have h1 : 0 < S 19 ↔ S 22 = 0 := hpl.up; have h2 : 0 ≤ S 19 ∧ S 19 ≤ 3 := hpl.hp; have := h1.2 (by rw [hd] at hdb; simpa using hdb); omega)
  have HH9 : Hid (0 ≤ S 13 ∧ S 13 ≤ 100) := zz (by have h1 : 0 ≤ S 13 ∧ S 13 ≤ 3 := (hm.pl 0 (by decide)).sc; omega)
  have HFX : Hid (F32 (S 14)) := zz (by have : -3932160 ≤ S 14 ∧ S 14 ≤ 3932160 := hpl.ax; unfold F32; omega)
  have HFY : Hid (F32 (S 15)) := zz (by have : -3932160 ≤ S 15 ∧ S 15 ≤ 3932160 := hpl.ay; unfold F32; omega)
  have HL := zz hL
  have HC2 := zz hc2
  have HC5 := zz hc5
  clear hhit hoth hpl hL hc2 hc5
  have hs := hm.sh k hk
  have h1 := h.as (putS_get S k).symm
  obtain ⟨x, hx⟩ : ∃ x, getS S k = x := ⟨_, rfl⟩
  rw [hx] at hs h1
  have hT : ∀ j, j < 24 → putS S k (shotNext x) j = S j := fun j hj => putS_other S k _ j (.inl (by omega))
  have hlt := h.lt
  have hbg := h.bg
  have c0 : w.cell? ⟨g, 24 + k * 6, none⟩ = some (.int .i32 (x 0)) := by have := h1.cellS0 hk; rwa [show putS S k x (24 + k * 6) = x 0 from putS_at S k x 0 (by decide)] at this
  have c1 : w.cell? ⟨g, 24 + k * 6 + 1, none⟩ = some (.int .i32 (x 1)) := by have := h1.cellS hk 1 (by decide) (kd := .i32) rfl; rwa [putS_at S k x 1 (by decide)] at this
  have c2 : w.cell? ⟨g, 24 + k * 6 + 2, none⟩ = some (.int .i32 (x 2)) := by have := h1.cellS hk 2 (by decide) (kd := .i32) rfl; rwa [putS_at S k x 2 (by decide)] at this
  have c3 : w.cell? ⟨g, 24 + k * 6 + 3, none⟩ = some (.int .i32 (x 3)) := by have := h1.cellS hk 3 (by decide) (kd := .i32) rfl; rwa [putS_at S k x 3 (by decide)] at this
  have c4 : w.cell? ⟨g, 24 + k * 6 + 4, none⟩ = some (.int .i64 (x 4)) := by have := h1.cellS hk 4 (by decide) (kd := .i64) rfl; rwa [putS_at S k x 4 (by decide)] at this
  have c5 : w.cell? ⟨g, 24 + k * 6 + 5, none⟩ = some (.int .i64 (x 5)) := by have := h1.cellS hk 5 (by decide) (kd := .i64) rfl; rwa [putS_at S k x 5 (by decide)] at this
  have z5 := h1.st.frozen (24 + k * 6 + 5)
  have hk2 : (k : Int) < 6 := by omega
  obtain ⟨l0, l1⟩ := hs.lf
  obtain ⟨v, hv⟩ : ∃ v, x 5 - 1 = v := ⟨_, rfl⟩
  rw [hx] at hn ha HE h4
  have hon := hs.on h4
  have HN := zz hn
  have hv0 : (v == 0) = false := by rw [← hv]; simpa using hn
  have hvr : 0 ≤ v ∧ v ≤ 40 := by omega
  obtain ⟨hv1, hv2⟩ := hvr
  obtain ⟨X, hX⟩ : ∃ X, padd (x 0) (x 2) = X := ⟨_, rfl⟩
  obtain ⟨Y, hY⟩ : ∃ Y, padd (x 1) (x 3) = Y := ⟨_, rfl⟩
  have HY := zz (show shotNext x = upd (upd (upd x 5 v) 0 X) 1 Y by unfold shotNext; rw [hv, hX, hY])
  have HX0 := zz (show shotNext x 0 = X by unfold shotNext; rw [← hX]; rfl)
  have HX1 := zz (show shotNext x 1 = Y by unfold shotNext; rw [← hY]; rfl)
  have HADD : Hid (∀ W, Calls Tryz.prog 194 #[.agg #[.int .i32 (x 0), .int .i32 (x 1)], .agg #[.int .i32 (x 2), .int .i32 (x 3)]] W fun e w' => e = .returned (.agg #[.int .i32 X, .int .i32 Y]) ∧ Below W.heap.size W w') := by rw [← hX, ← hY]; exact fun W => sAdd_any (by have := hs.ax; unfold F32; omega) (by have := hs.ay; unfold F32; omega) hs.wx hs.wy W
  have HI := zz (show insideB (-4194304) (-4194304) 4194304 4194304 X Y = true by rw [← HX0.out, ← HX1.out]; exact ha)
  have FX := zz (show F32 X by rw [← hX]; exact sat_bd _)
  have FY := zz (show F32 Y by rw [← hY]; exact sat_bd _)
  have H1 := zz (h1.setS hk 5 (by decide) (kd := .i64) rfl v)
  have HB1 := zz (bSetB6 (Below.refl base w) hbg (24 + k * 6 + 5) (.int .i64 v))
  have ho0 := hs.ow
  clear hX hY hn ha h1
  have H40 := zz h40
  rw [hx] at H40
  have HV := zz hv
  rw [HE.out]
  rw [hx, HX0.out, HX1.out] at htb
  have HTO : Hid (∀ W, Calls Tryz.prog 192 #[.agg #[.int .i32 X, .int .i32 Y], .int .i32 65536, .agg #[.int .i32 (S 14), .int .i32 (S 15)], .int .i32 262144] W fun e w' => e = .returned (.bool tb) ∧ Below W.heap.size W w') := zz (fun W => by rw [← htb]; exact sTouch_any FX.out FY.out (by unfold F32; omega) HFX.out HFY.out (by unfold F32; omega) W)
  clear h hx hs hT hm ho0 h40 htb h4 HE
  go_enter Tryz.func123, Tryz.ntmps123
  go_upto_region 4 with fail
  obtain ⟨w1, hw1⟩ : ∃ w1, w1 = w.setCell ⟨g, 24 + k * 6 + 5, none⟩ (.int .i64 v) := ⟨_, rfl⟩
  rw [← hw1] at H1 HB1 ⊢
  have b0 : w1.cell? ⟨g, 24 + k * 6, none⟩ = some (.int .i32 (x 0)) := by have := H1.out.cellS0 hk; rwa [show putS S k (upd x 5 v) (24 + k * 6) = x 0 from putS_at S k (upd x 5 v) 0 (by decide)] at this
  have b1 : w1.cell? ⟨g, 24 + k * 6 + 1, none⟩ = some (.int .i32 (x 1)) := by have := H1.out.cellS hk 1 (by decide) (kd := .i32) rfl; rwa [putS_at S k (upd x 5 v) 1 (by decide)] at this
  have b2 : w1.cell? ⟨g, 24 + k * 6 + 2, none⟩ = some (.int .i32 (x 2)) := by have := H1.out.cellS hk 2 (by decide) (kd := .i32) rfl; rwa [putS_at S k (upd x 5 v) 2 (by decide)] at this
  have b3 : w1.cell? ⟨g, 24 + k * 6 + 3, none⟩ = some (.int .i32 (x 3)) := by have := H1.out.cellS hk 3 (by decide) (kd := .i32) rfl; rwa [putS_at S k (upd x 5 v) 3 (by decide)] at this
  have hl1 := H1.out.lt
  clear hw1 c0 c1 c2 c3 c4 c5 z5
  go_cut [] (fun wx => Stg wx g gp base (putS S k (shotNext x)) F L ∧ Below base w wx)
  case first =>
    go_region_law (first | (go_simp; go_at_call 194; refine (HADD.out _).mono ?_; rintro e w2 ⟨rfl, k2⟩; have h2 := H1.out.drew.on k2; have q0 := h2.cellS0 hk; have q1 := h2.cellS hk 1 (by decide) (kd := .i32) rfl; have y0 := h2.st.frozen (24 + k * 6); have y1 := h2.st.frozen (24 + k * 6 + 1); dsimp only))
    all_goals
      have H3 := zz ((h2.setS hk 0 (by decide) (kd := .i32) rfl X).setS hk 1 (by decide) (kd := .i32) rfl Y)
      have HB3 := zz (bSetB6 (bSetB6 (HB1.out.drew.trans (k2.mono H1.out.drew.bw)) hbg (24 + k * 6 + 0) (.int .i32 X)) hbg (24 + k * 6 + 1) (.int .i32 Y))
      rw [← HY.out] at H3
      clear q0 q1 y0 y1 b0 b1 b2 b3
      go_wp2_with fail
      go_meet
      exact ⟨H3.out, HB3.out⟩
  case rest =>
    obtain ⟨hc1, hc2⟩ := hcut
    have H3 := zz hc1
    have HB3 := zz hc2
    clear hc1 hc2 b0 b1 b2 b3 H1 HB1
    obtain ⟨w3, hw3⟩ : ∃ w3, w3 = wc := ⟨_, rfl⟩
    rw [← hw3] at H3 HB3 ⊢
    clear hw3
    have b0 : w3.cell? ⟨g, 24 + k * 6, none⟩ = some (.int .i32 X) := by have := H3.out.cellS0 hk; rwa [show putS S k (shotNext x) (24 + k * 6) = shotNext x 0 from putS_at S k _ 0 (by decide), HX0.out] at this
    have b1 : w3.cell? ⟨g, 24 + k * 6 + 1, none⟩ = some (.int .i32 Y) := by have := H3.out.cellS hk 1 (by decide) (kd := .i32) rfl; rwa [putS_at S k _ 1 (by decide), HX1.out] at this
    have hl3 := H3.out.lt
    go_wp2_with fail
    refine wp_region_mild (by kernel_rfl) (by kernel_rfl) ?_
    repeat (go_big_quiet_step ((first | (go_at_call 196; exact mild_of (garena_any _)) | (go_at_call 195; exact mild_of (gins _ _ _ _ _ _ _ _ HI.out)))))
    refine wpQuiet_nil ?_
    intro w4 hw'
    obtain ⟨⟨wq, k4⟩, hw''⟩ := hw'
    subst hw''
    have H4 := zz (mildS H3.out k4)
    have HB4 := zz (HB3.out.trans (k4.mono H3.out.bw))
    clear k4 b0 b1 H3 HB3
    have hcs : db = false ∨ (db = true ∧ tb = false) ∨ (db = true ∧ tb = true) := by
      cases db
      · exact .inl rfl
      · cases tb
        · exact .inr (.inl ⟨rfl, rfl⟩)
        · exact .inr (.inr ⟨rfl, rfl⟩)
    rcases hcs with rfl | ⟨rfl, rfl⟩ | ⟨rfl, rfl⟩
    all_goals
      have HT2 : Hid (∀ j, j < 24 → putS S k (shotNext x) j = S j) := zz (fun j hj => putS_other S k _ j (.inl (by omega)))
      have b4 : w4.cell? ⟨g, 24 + k * 6 + 4, none⟩ = some (.int .i64 1) := by have := H4.out.cellS hk 4 (by decide) (kd := .i64) rfl; rwa [putS_at S k _ 4 (by decide), show shotNext x 4 = x 4 from rfl, H40.out] at this
      have b0 : w4.cell? ⟨g, 24 + k * 6, none⟩ = some (.int .i32 X) := by have := H4.out.cellS0 hk; rwa [show putS S k (shotNext x) (24 + k * 6) = shotNext x 0 from putS_at S k _ 0 (by decide), HX0.out] at this
      have b1 : w4.cell? ⟨g, 24 + k * 6 + 1, none⟩ = some (.int .i32 Y) := by have := H4.out.cellS hk 1 (by decide) (kd := .i32) rfl; rwa [putS_at S k _ 1 (by decide), HX1.out] at this
      have hl4 := H4.out.lt
      go_upto_region 9 with (first | (refine wpList_load_mid rfl 35 (.tmp 48) rfl g 14 rfl [.int .i32 (S 14), .int .i32 (S 15), .int .i32 (S 16), .int .i32 (S 17), .int .i64 (S 18), .int .i64 (S 19), .int .i64 (S 20), .int .i64 (S 21), .int .i64 (S 22), .int .i64 (S 23)] _ (pl_range1 H4.out HT2.out) Tryz.underlying35 rfl (by kernel_rfl) ?_))
      have hk5 : Blk (w4.alloc (.cells #[.int .i32 (S 14), .int .i32 (S 15), .int .i32 (S 16), .int .i32 (S 17), .int .i64 (S 18), .int .i64 (S 19), .int .i64 (S 20), .int .i64 (S 21), .int .i64 (S 22), .int .i64 (S 23)] 35)) w4.heap.size 35 #[.int .i32 (S 14), .int .i32 (S 15), .int .i32 (S 16), .int .i32 (S 17), .int .i64 (S 18), .int .i64 (S 19), .int .i64 (S 20), .int .i64 (S 21), .int .i64 (S 22), .int .i64 (S 23)] := Blk.new _ _ _
      obtain ⟨w5, hw5⟩ : ∃ w5, w5 = w4.alloc (.cells #[.int .i32 (S 14), .int .i32 (S 15), .int .i32 (S 16), .int .i32 (S 17), .int .i64 (S 18), .int .i64 (S 19), .int .i64 (S 20), .int .i64 (S 21), .int .i64 (S 22), .int .i64 (S 23)] 35) := ⟨_, rfl⟩
      have H5 : Hid (Stg w5 g gp base (putS S k (shotNext x)) F L) := by rw [hw5]; exact zz (H4.out.alloc _)
      have HB5 : Hid (Below base w w5) := by rw [hw5]; exact zz (HB4.out.alloc H4.out.bw _)
      have d0 : w5.cell? ⟨g, 24 + k * 6, none⟩ = some (.int .i32 X) := by have := H5.out.cellS0 hk; rwa [show putS S k (shotNext x) (24 + k * 6) = shotNext x 0 from putS_at S k _ 0 (by decide), HX0.out] at this
      have d1 : w5.cell? ⟨g, 24 + k * 6 + 1, none⟩ = some (.int .i32 Y) := by have := H5.out.cellS hk 1 (by decide) (kd := .i32) rfl; rwa [putS_at S k _ 1 (by decide), HX1.out] at this
      rw [← hw5] at hk5 ⊢
      have e0 := hk5.cell 0
      have e1 := hk5.cell 1
      have e8 := hk5.cell 8
      have e6 := hk5.cell 6
      simp only [zA, zB, zC] at e0 e1 e8 e6
      have hl5 := H5.out.lt
      have hl6 := hk5.lt
      clear hw5 hk5 b0 b1 b4 H4 HB4
      refine wp_region_mild (by kernel_rfl) (by kernel_rfl) ?_
      repeat (go_big_quiet_step ((go_at_call 192; exact mild_of (HTO.out _))))
      refine wpQuiet_nil ?_
      intro w6 hw'
      obtain ⟨⟨wq, k6⟩, hw''⟩ := hw'
      subst hw''
      have H6 := zz (mildS H5.out k6)
      have HB6 := zz (HB5.out.trans (k6.mono H5.out.bw))
      clear k6 d0 d1 e0 e1 e8 e6 H5 HB5
      first
        | (go_wp2_with fail
           refine (ghit_1 H6.out hF (by rw [HT2.out 14 (by decide)]; exact HFX.out) (by rw [HT2.out 19 (by decide)]; first | exact HH5.out rfl | exact HH5.out trivial | exact HH5.out) (by rw [HT2.out 13 (by decide)]; exact HH9.out) HL.out HC2.out HC5.out).mono ?_
           rintro e w7 ⟨rfl, h7, k7⟩
           have H6 := zz h7
           have HB6 := zz (HB6.out.trans k7)
           clear h7 k7
           go_wp2
           go_ret
           exact ⟨rfl, H6.out, HB6.out⟩)
        | (go_wp2
           go_ret
           exact ⟨rfl, H6.out, HB6.out⟩)
theorem gfly_any (h : Stg w g gp base S F L) (hk : k < 6) (hm : StM S) (h4 : getS S k 4 ≠ 0) (hF : 0 ≤ F ∧ F ≤ 1073741824) {a b : Nat} (hev : EvN L a b) (ha : a ≤ 60) (hb : b ≤ 15) :
  Calls Tryz.prog 123 #[.pointer (some ⟨g, 0, none⟩), .pointer (some ⟨g, 24 + k * 6, none⟩)] w fun e w' => e = .returned (.bool (flyT k F (S, L)).1) ∧ Stg w' g gp base (flyT k F (S, L)).2.1 F (flyT k F (S, L)).2.2 ∧ Below base w w' := by
 have hL : L.length < 63 := by have := hev.len; omega
 have hc : ∀ em kd, kd = 2 ∨ kd = 5 → cntE L em kd ≤ 15 := fun em kd hk => Nat.le_trans (hev.cnt em kd hk) hb
 by_cases hn : getS S k 5 - 1 = 0
 ·exact fly_dead h hk hm hn
 ·cases har : arenaB (shotNext (getS S k) 0) (shotNext (getS S k) 1)
  ·exact fly_out h hk hm h4 hn har
  ·have how := (hm.sh k hk).ow
   by_cases h1 : getS S k 4 = 1
   ·exact fly_at1 h hk hm h4 h1 hn har hF hL (hc _ _ (.inl rfl)) (hc _ _ (.inr rfl))
   ·have h2 : getS S k 4 = 2 := by omega
    exact fly_at0 h hk hm h4 h2 hn har hF hL (hc _ _ (.inl rfl)) (hc _ _ (.inr rfl))
end
end
end Go.Proofs.YtibeihcpehikoaaGreat
