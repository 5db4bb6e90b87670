/-
  The walks of walls, circles and what slows: the program's and the document's.
-/
import Derived.Test.YtibeihcpehikoaaGreatNr11
namespace Go.Proofs.YtibeihcpehikoaaGreat
section
open Go.RowKit
set_option maxRecDepth 100000
theorem quiet_sw {P : Program} {f : FuncId} {args : Array Value} {w : World} {n : Nat} {v : Value}
    (h : Calls P f args (w.drewN n) fun e w' => e = .returned v ∧ w.drewN n = w') : Calls P f args (w.drewN n) fun e w'' => e = .returned v ∧ ∃ m, w'' = w.drewN m :=
  h.mono fun _ _ ⟨he, hm⟩ => ⟨he, n, hm.symm⟩
def back_ (v : Int) : Int := fmul (sat (-v)) 32768
theorem back_bd (v : Int) : F32 (back_ v) := fmul_bd _ _
theorem half_f32 : F32 32768 := by unfold F32; omega
/-- One number of a place and a way between two walls. -/
def wallP (p v lo hi : Int) : Int := if padd p v < lo then lo else if hi < padd p v then hi else padd p v
def wallV (p v lo hi : Int) : Int := if padd p v < lo then back_ v else if hi < padd p v then back_ v else v
def wallW (p v lo hi bl ab : Int) : Int := if padd p v < lo then bl else if hi < padd p v then ab else 0
theorem wallP_bd {p v lo hi : Int} (hl : F32 lo) (hh : F32 hi) : F32 (wallP p v lo hi) := by
  unfold wallP
  split
  · exact hl
  · split
    · exact hh
    · exact sat_bd _
theorem wallV_bd {p v lo hi : Int} (hv : F32 v) : F32 (wallV p v lo hi) := by
  unfold wallV
  split
  · exact back_bd _
  · split
    · exact back_bd _
    · exact hv
set_option maxHeartbeats 1000000 in
theorem swall_any {p v : Int} (hp : F32 p) (hv : F32 v) (lo hi bl ab : Int) (w : World) :
    Calls Tryz.prog 287 #[.int .i32 p, .int .i32 v, .int .i32 lo, .int .i32 hi, .int .i64 bl, .int .i64 ab] w fun e w' => e = .returned (.tuple #[.int .i32 (wallP p v lo hi), .int .i32 (wallV p v lo hi), .int .i64 (wallW p v lo hi bl ab)]) ∧ w = w' := by
  have HP := Lib.hid hp
  have HV := Lib.hid hv
  have e : fmul (sat (-v)) 32768 = back_ v := rfl
  unfold wallP wallV wallW
  obtain ⟨q, hq⟩ : ∃ q, padd p v = q := ⟨_, rfl⟩
  obtain ⟨b, hb⟩ : ∃ b, back_ v = b := ⟨_, rfl⟩
  rw [hq, hb]
  rw [hb] at e
  have HQ := Lib.hid hq
  have HE := Lib.hid e
  clear hp hv hq hb e
  by_cases h1 : q < lo
  · rw [if_pos h1, if_pos h1, if_pos h1]
    go_enter Tryz.func287, Tryz.ntmps287
    go_wp2_with fail
    refine (fAdd_p HP.out HV.out _).mono ?_
    rw [HQ.out]
    rintro e w1 ⟨rfl, rfl⟩
    go_wp2_with fail
    refine (fNeg_any HV.out _).mono ?_
    rintro e w1 ⟨rfl, rfl⟩
    go_wp2_with fail
    refine (fMul_p (sat_bd _) half_f32 _).mono ?_
    rw [HE.out]
    rintro e w1 ⟨rfl, rfl⟩
    go_wp2
    go_ret3
    exact ⟨rfl, rfl⟩
  · rw [if_neg h1, if_neg h1, if_neg h1]
    have g1 : lo ≤ q := by omega
    clear h1
    by_cases h2 : hi < q
    · rw [if_pos h2, if_pos h2, if_pos h2]
      go_enter Tryz.func287, Tryz.ntmps287
      go_wp2_with fail
      refine (fAdd_p HP.out HV.out _).mono ?_
      rw [HQ.out]
      rintro e w1 ⟨rfl, rfl⟩
      go_wp2_with fail
      refine (fNeg_any HV.out _).mono ?_
      rintro e w1 ⟨rfl, rfl⟩
      go_wp2_with fail
      refine (fMul_p (sat_bd _) half_f32 _).mono ?_
      rw [HE.out]
      rintro e w1 ⟨rfl, rfl⟩
      go_wp2
      go_ret3
      exact ⟨rfl, rfl⟩
    · rw [if_neg h2, if_neg h2, if_neg h2]
      have g2 : q ≤ hi := by omega
      clear h2
      go_enter Tryz.func287, Tryz.ntmps287
      go_wp2_with fail
      refine (fAdd_p HP.out HV.out _).mono ?_
      rw [HQ.out]
      rintro e w1 ⟨rfl, rfl⟩
      go_wp2_with fail
      refine (fNeg_any HV.out _).mono ?_
      rintro e w1 ⟨rfl, rfl⟩
      go_wp2_with fail
      refine (fMul_p (sat_bd _) half_f32 _).mono ?_
      rw [HE.out]
      rintro e w1 ⟨rfl, rfl⟩
      go_wp2
      go_ret3
      exact ⟨rfl, rfl⟩
def touchB (px py r qx qy s : Int) : Bool := nearB (psub qx px) (psub qy py) (padd r s)
section
variable {px py r qx qy s : Int} (h1 : F32 px) (h2 : F32 py) (h3 : F32 r) (h4 : F32 qx) (h5 : F32 qy) (h6 : F32 s) (w : World)
include h1 h2 h3 h4 h5 h6
set_option maxHeartbeats 1000000 in
theorem sTouch_any : Calls Tryz.prog 192 #[.agg #[.int .i32 px, .int .i32 py], .int .i32 r, .agg #[.int .i32 qx, .int .i32 qy], .int .i32 s] w fun e w' => e = .returned (.bool (touchB px py r qx qy s)) ∧ Below w.heap.size w w' := by
  have H1 := Lib.hid h1
  have H2 := Lib.hid h2
  have H3 := Lib.hid h3
  have H4 := Lib.hid h4
  have H5 := Lib.hid h5
  have H6 := Lib.hid h6
  clear h1 h2 h3 h4 h5 h6
  go_enter Tryz.func192, Tryz.ntmps192
  go_wp2_with fail
  refine (sSub_any H4.out H5.out H1.out H2.out _).mono ?_
  rintro e w1 ⟨rfl, k1⟩
  obtain ⟨k1c, k1f⟩ := bcell k1
  have k1z := k1.size
  simp at k1z
  go_wp2
  go_quiet (first | (go_at_call 245; exact quiet_sw (fAdd_p H3.out H6.out _)) | (go_at_call 244; exact quiet_sw (tNear_any (sat_bd _) (sat_bd _) (sat_bd _) _)))
  go_wp2
  go_ret
  exact ⟨rfl, (by repeat (first | exact Below.refl _ _ | (with_reducible assumption) | apply bAlloc | apply below_drewN | apply Below.drew | (refine bSetG ?_ (by first | omega | (simp; omega)) _ _) | (refine bTrans ?_ (by with_reducible assumption))))⟩
end
end
end Go.Proofs.YtibeihcpehikoaaGreat
