/-
  A meter's clone, and one added to another.
-/
import Derived.Test.YtnepjdpifbjiiaaDoorMeterAlike
namespace Go.Proofs.YtnepjdpifbjiiaaDoor
open Go.RowKit
set_option maxRecDepth 100000

def addR (f k : Nat → Int) (off n : Nat) : Nat → Int := fun j => if off ≤ j ∧ j < off + n then f j + k j else f j
theorem addR_zero (f k : Nat → Int) (off : Nat) : addR f k off 0 = f := by
  funext j; unfold addR; rw [if_neg (by omega)]
theorem addR_at (f k : Nat → Int) (off n : Nat) : addR f k off n (off + n) = f (off + n) := by unfold addR; rw [if_neg (by omega)]
theorem addR_succ (f k : Nat → Int) (off n : Nat) : addR f k off (n + 1) = upd (addR f k off n) (off + n) (f (off + n) + k (off + n)) := by
  funext j
  unfold addR upd
  by_cases hj : j = off + n
  · subst hj; rw [if_pos (by omega), if_pos rfl]
  · rw [if_neg hj]
    by_cases h : off ≤ j ∧ j < off + n
    · exact (if_pos (by omega)).trans (if_pos h).symm
    · exact (if_neg (by omega)).trans (if_neg h).symm
set_option maxHeartbeats 1000000 in
theorem plus_any (g h off n : Nat) (f k : Nat → Int) (w : World) (hf : IBlk w g 53 74 f) (hk : IBlk w h 53 74 k) (hne : h ≠ g) (hn : off + n ≤ 74) (hs : ∀ j, off ≤ j → 0 ≤ f j ∧ f j ≤ 1000000) (ht : ∀ j, off ≤ j → 0 ≤ k j ∧ k j ≤ 1000000) :
    Calls Tryd.prog 29 #[.slice (some ⟨g, off, none⟩) n n, .slice (some ⟨h, off, none⟩) n n] w fun e w' => e = .returned (.tuple #[]) ∧ IBlk w' g 53 74 (addR f k off n) ∧ w.grownBy w' (some g) := by
  have HF := Lib.hid hf
  have HK := Lib.hid hk
  have HS := Lib.hid hs
  have HT := Lib.hid ht
  clear hf hk hs ht
  go_enter Tryd.func29, Tryd.ntmps29
  go_wp2
  go_loopw [8] (fun i wr => ∃ j : Nat, j ≤ n ∧ i = .int .i64 j ∧ IBlk wr g 53 74 (addR f k off j) ∧ w.grownBy wr (some g)) (fun i _ => n - (intOf i).toNat)
  case atStart => exact ⟨0, Nat.zero_le _, rfl, by rw [addR_zero]; exact HF.out, oRefl _ _⟩
  case round =>
    obtain ⟨j, hj, rfl, hi, hg⟩ := hrel
    by_cases hlt : j < n
    · have c1 := hi.cell (off + j) (by omega)
      have z1 := hi.frozen (off + j)
      rw [addR_at] at c1
      have c2 := (HK.out.grown hg (by intro e; cases e; exact hne rfl)).cell (off + j) (by omega)
      have b1 := HS.out (off + j) (by omega)
      have b2 := HT.out (off + j) (by omega)
      have hsu := addR_succ f k off j
      have HII := Lib.hid (hi.set (off + j) (f (off + j) + k (off + j)))
      rw [← hsu] at HII
      have hwr : IntKind.i64.wrap (f (off + j) + k (off + j)) = f (off + j) + k (off + j) := by rw [IntKind.wrap_i64]; omega
      clear hi hsu
      go_wp2
      go_roundw
      case rel => exact ⟨j + 1, by omega, by go_num, HII.out, oSet hg _ _⟩
      case measure => simp [intOf]; omega
    · obtain rfl : j = n := by omega
      go_wp2
      go_end0
      exact ⟨rfl, hi, hg⟩

/-- Bytes added wrap. -/
def addF (f k : Nat → Int) : Nat → Int := fun j => if j = 3 then wrap64 (f 3 + k 3) else f j + k j
set_option maxHeartbeats 2000000 in
theorem add_any (g h : Nat) (f k : Nat → Int) (w : World) (hf : IBlk w g 53 74 f) (hk : IBlk w h 53 74 k) (hne : h ≠ g) (hs : Sm f 1000000) (ht : Sm k 1000000) :
    Calls Tryd.prog 12 #[.pointer (some ⟨g, 0, none⟩), .pointer (some ⟨h, 0, none⟩)] w fun e w' => e = .returned (.tuple #[]) ∧ IBlk w' g 53 74 (addF f k) ∧ w.grownBy w' (some g) := by
  have c0 := hf.cell 0 (by decide)
  have c1 := hf.cell 1 (by decide)
  have c2 := hf.cell 2 (by decide)
  have c3 := hf.cell 3 (by decide)
  have c4 := hf.cell 4 (by decide)
  have d0 := hk.cell 0 (by decide)
  have d1 := hk.cell 1 (by decide)
  have d2 := hk.cell 2 (by decide)
  have d3 := hk.cell 3 (by decide)
  have d4 := hk.cell 4 (by decide)
  have z0 := hf.frozen 0
  have z1 := hf.frozen 1
  have z2 := hf.frozen 2
  have z3 := hf.frozen 3
  have z4 := hf.frozen 4
  have s0 := hs 0 (by decide)
  have s1 := hs 1 (by decide)
  have s2 := hs 2 (by decide)
  have s4 := hs 4 (by decide)
  have t0 := ht 0 (by decide)
  have t1 := ht 1 (by decide)
  have t2 := ht 2 (by decide)
  have t4 := ht 4 (by decide)
  have w0 : IntKind.i64.wrap (f 0 + k 0) = f 0 + k 0 := by rw [IntKind.wrap_i64]; omega
  have w1 : IntKind.i64.wrap (f 1 + k 1) = f 1 + k 1 := by rw [IntKind.wrap_i64]; omega
  have w2 : IntKind.i64.wrap (f 2 + k 2) = f 2 + k 2 := by rw [IntKind.wrap_i64]; omega
  have w4 : IntKind.i64.wrap (f 4 + k 4) = f 4 + k 4 := by rw [IntKind.wrap_i64]; omega
  have hne2 : ¬ g = h := fun e => hne e.symm
  have hne3 : ¬ h = g := hne
  have HF := Lib.hid hf
  have HK := Lib.hid hk
  have HS := Lib.hid hs
  have HT := Lib.hid ht
  have hlg := hf.lt
  have hlh := hk.lt
  clear hf hk hs ht
  go_enter Tryd.func12, Tryd.ntmps12
  go_wp2
  go_big_region
  go_wp2
  go_big_region
  go_wp2
  go_big_region
  go_wp2
  go_big_region
  go_wp2
  go_big_region
  obtain ⟨W5, hW5⟩ : ∃ W5, W5 = ((((w.setCell ⟨g, 0, none⟩ (.int .i64 (f 0 + k 0))).setCell ⟨g, 1, none⟩ (.int .i64 (f 1 + k 1))).setCell ⟨g, 2, none⟩ (.int .i64 (f 2 + k 2))).setCell ⟨g, 3, none⟩ (.int .i64 (wrap64 (f 3 + k 3)))).setCell ⟨g, 4, none⟩ (.int .i64 (f 4 + k 4)) := ⟨_, rfl⟩
  rw [← hW5]
  obtain ⟨f5, hf5⟩ : ∃ f5, f5 = upd (upd (upd (upd (upd f 0 (f 0 + k 0)) 1 (f 1 + k 1)) 2 (f 2 + k 2)) 3 (wrap64 (f 3 + k 3))) 4 (f 4 + k 4) := ⟨_, rfl⟩
  have hi5 : IBlk W5 g 53 74 f5 := by rw [hW5, hf5]; exact ((((HF.out.set 0 _).set 1 _).set 2 _).set 3 _).set 4 _
  have hg5 : w.grownBy W5 (some g) := by rw [hW5]; exact oSet (oSet (oSet (oSet (oSet (oRefl _ _) _ _) _ _) _ _) _ _) _ _
  have hk5 : IBlk W5 h 53 74 k := HK.out.grown hg5 (by intro e; cases e; exact hne rfl)
  have hs5 : ∀ j, 4 < j → 0 ≤ f5 j ∧ f5 j ≤ 1000000 := fun j hj => by
    rw [hf5, upd_other _ _ _ _ (by omega), upd_other _ _ _ _ (by omega), upd_other _ _ _ _ (by omega), upd_other _ _ _ _ (by omega), upd_other _ _ _ _ (by omega)]
    exact HS.out j (by omega)
  have HI5 := Lib.hid hi5
  have HG5 := Lib.hid hg5
  have HK5 := Lib.hid hk5
  have HS5 := Lib.hid hs5
  have HF5 := Lib.hid hf5
  clear hW5 hf5 hi5 hg5 hk5 hs5 c0 c1 c2 c3 c4 d0 d1 d2 d3 d4 z0 z1 z2 z3 z4 s0 s1 s2 s4 t0 t1 t2 t4 w0 w1 w2 w4
  go_wp2
  go_region_held3 (fun _ => True) (trivial) ((go_at_call 29; have hA5 := plus_any g h 5 5 f5 k _ HI5.out.drew.drew.drew.drew.drew.drew HK5.out.drew.drew.drew.drew.drew.drew hne (by decide) (fun j hj => HS5.out j (by omega)) (fun j hj => HT.out j (by omega)); refine hA5.mono ?_; rintro e w6 ⟨rfl, hi6, hg6⟩))
  have hg7 : w.grownBy w6 (some g) := oTrans (oDrew (oDrew (oDrew (oDrew (oDrew (oDrew HG5.out)))))) hg6
  have hk7 : IBlk w6 h 53 74 k := HK.out.grown hg7 (by intro e; cases e; exact hne rfl)
  have HI7 := Lib.hid hi6
  have HG7 := Lib.hid hg7
  have HK7 := Lib.hid hk7
  have hs7 : ∀ j, 10 ≤ j → 0 ≤ addR f5 k 5 5 j ∧ addR f5 k 5 5 j ≤ 1000000 := fun j hj => by
    unfold addR; rw [if_neg (by omega)]; exact HS5.out j (by omega)
  have HS7 := Lib.hid hs7
  have HB := Lib.hid (Nat.le_refl 0)
  clear hg7 hk7 hs7 hi6 hg6
  go_wp2
  go_region_held3 (fun _ => True) (trivial) ((go_at_call 29; refine (plus_any g h 10 64 (addR f5 k 5 5) k _ HI7.out.drew HK7.out.drew hne (by decide) HS7.out (fun j hj => HT.out j (by omega))).mono ?_; rintro e w8 ⟨rfl, hi8, hg8⟩))
  go_wp2
  have hfin : ∀ j, j < 74 → addR (addR f5 k 5 5) k 10 64 j = addF f k j := fun j hj => by
    unfold addF
    have e : j = 0 ∨ j = 1 ∨ j = 2 ∨ j = 3 ∨ j = 4 ∨ (5 ≤ j ∧ j < 10) ∨ 10 ≤ j := by omega
    rcases e with rfl | rfl | rfl | rfl | rfl | e | e
    · simp [addR, HF5.out, upd]
    · simp [addR, HF5.out, upd]
    · simp [addR, HF5.out, upd]
    · simp [addR, HF5.out, upd]
    · simp [addR, HF5.out, upd]
    · have h5 : f5 j = f j := by
        rw [HF5.out, upd_other _ _ _ _ (by omega), upd_other _ _ _ _ (by omega), upd_other _ _ _ _ (by omega), upd_other _ _ _ _ (by omega), upd_other _ _ _ _ (by omega)]
      unfold addR
      rw [if_neg (by omega), if_pos (by omega), if_neg (by omega), h5]
    · have h5 : f5 j = f j := by
        rw [HF5.out, upd_other _ _ _ _ (by omega), upd_other _ _ _ _ (by omega), upd_other _ _ _ _ (by omega), upd_other _ _ _ _ (by omega), upd_other _ _ _ _ (by omega)]
      unfold addR
      rw [if_pos (by omega), if_neg (by omega), if_neg (by omega), h5]
  go_end0
  exact ⟨rfl, hi8.congr hfin, oTrans (oDrew HG7.out) hg8⟩
end Go.Proofs.YtnepjdpifbjiiaaDoor
