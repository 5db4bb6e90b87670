/-
  The walks of places and ways: the program's and the document's.
-/
import Derived.Test.YtibeihcpehikoaaGreatNk10
namespace Go.Proofs.YtibeihcpehikoaaGreat
open Go.RowKit
set_option maxRecDepth 100000
set_option maxHeartbeats 1000000
section
def padd (a b : Int) : Int := sat (a + b)
def psub (a b : Int) : Int := sat (a - b)
theorem fAdd_p {a b : Int} (ha : F32 a) (hb : F32 b) (w : World) : Calls Tryz.prog 245 #[.int .i32 a, .int .i32 b] w fun e w' => e = .returned (.int .i32 (padd a b)) ∧ w = w' := fAdd_any ha hb w
theorem fSub_p {a b : Int} (ha : F32 a) (hb : F32 b) (w : World) : Calls Tryz.prog 288 #[.int .i32 a, .int .i32 b] w fun e w' => e = .returned (.int .i32 (psub a b)) ∧ w = w' := fSub_any ha hb w
theorem fMul_p {a b : Int} (ha : F32 a) (hb : F32 b) (w : World) : Calls Tryz.prog 281 #[.int .i32 a, .int .i32 b] w fun e w' => e = .returned (.int .i32 (fmul a b)) ∧ w = w' := fMul_any ha hb w
theorem r10Sub_p {a b : Int} (ha : F32 a) (hb : F32 b) (w : World) : Calls Tryz.prog 261 #[.int .i32 a, .int .i32 b] w fun e w' => e = .returned (.int .i32 (psub a b)) ∧ w = w' := r10Sub_any ha hb w
theorem r10Add_p {a b : Int} (ha : F32 a) (hb : F32 b) (w : World) : Calls Tryz.prog 218 #[.int .i32 a, .int .i32 b] w fun e w' => e = .returned (.int .i32 (padd a b)) ∧ w = w' := r10Add_any ha hb w
section
variable {a b c d : Int} (ha : F32 a) (hb : F32 b) (hc : F32 c) (hd : F32 d) (w : World)
include ha hb hc hd
theorem each_fAdd : Calls Tryz.prog 247 #[.agg #[.int .i32 a, .int .i32 b], .agg #[.int .i32 c, .int .i32 d], .func (.func 245) #[] #[]] w fun e w' => e = .returned (.agg #[.int .i32 (padd a c), .int .i32 (padd b d)]) ∧ Below w.heap.size w w' := by
 have HA := zz ha
 have HB := zz hb
 have HC := zz hc
 have HD := zz hd
 clear ha hb hc hd
 go_enter Tryz.func247, Tryz.ntmps247
 go_wp2
 go_region_held3 (fun w' => w'.cell? ⟨w.heap.size, 0, none⟩ = some (.int .i32 a) ∧ w'.cell? ⟨w.heap.size, 1, none⟩ = some (.int .i32 b) ∧ w'.cell? ⟨w.heap.size + 1, 0, none⟩ = some (.int .i32 c) ∧ w'.cell? ⟨w.heap.size + 1, 1, none⟩ = some (.int .i32 d)) (go_keep) (first | (go_at_call 245; refine (fAdd_p (by first | exact HA.out | exact HB.out) (by first | exact HC.out | exact HD.out) _).mono ?_; rintro e w1 ⟨rfl, rfl⟩))
 all_goals
  go_wp2
  refine bodyPost_ret (v := .agg #[.int .i32 (padd a c), .int .i32 (padd b d)]) (by simp [results, Tryz.results247, go_sem]) rfl ⟨rfl, (by repeat (first | exact Below.refl _ _ | (with_reducible assumption) | apply bAlloc | apply below_drewN | apply Below.drew))⟩
end
section
variable {a b c d : Int} (ha : F32 a) (hb : F32 b) (hc : F32 c) (hd : F32 d) (w : World)
include ha hb hc hd
theorem each_fSub : Calls Tryz.prog 247 #[.agg #[.int .i32 a, .int .i32 b], .agg #[.int .i32 c, .int .i32 d], .func (.func 288) #[] #[]] w fun e w' => e = .returned (.agg #[.int .i32 (psub a c), .int .i32 (psub b d)]) ∧ Below w.heap.size w w' := by
 have HA := zz ha
 have HB := zz hb
 have HC := zz hc
 have HD := zz hd
 clear ha hb hc hd
 go_enter Tryz.func247, Tryz.ntmps247
 go_wp2
 go_region_held3 (fun w' => w'.cell? ⟨w.heap.size, 0, none⟩ = some (.int .i32 a) ∧ w'.cell? ⟨w.heap.size, 1, none⟩ = some (.int .i32 b) ∧ w'.cell? ⟨w.heap.size + 1, 0, none⟩ = some (.int .i32 c) ∧ w'.cell? ⟨w.heap.size + 1, 1, none⟩ = some (.int .i32 d)) (go_keep) (first | (go_at_call 288; refine (fSub_p (by first | exact HA.out | exact HB.out) (by first | exact HC.out | exact HD.out) _).mono ?_; rintro e w1 ⟨rfl, rfl⟩))
 all_goals
  go_wp2
  refine bodyPost_ret (v := .agg #[.int .i32 (psub a c), .int .i32 (psub b d)]) (by simp [results, Tryz.results247, go_sem]) rfl ⟨rfl, (by repeat (first | exact Below.refl _ _ | (with_reducible assumption) | apply bAlloc | apply below_drewN | apply Below.drew))⟩
end
section
variable {a b c d : Int} (ha : F32 a) (hb : F32 b) (hc : F32 c) (hd : F32 d) (w : World)
include ha hb hc hd
theorem each_fMul : Calls Tryz.prog 247 #[.agg #[.int .i32 a, .int .i32 b], .agg #[.int .i32 c, .int .i32 d], .func (.func 281) #[] #[]] w fun e w' => e = .returned (.agg #[.int .i32 (fmul a c), .int .i32 (fmul b d)]) ∧ Below w.heap.size w w' := by
 have HA := zz ha
 have HB := zz hb
 have HC := zz hc
 have HD := zz hd
 clear ha hb hc hd
 go_enter Tryz.func247, Tryz.ntmps247
 go_wp2
 go_region_held3 (fun w' => w'.cell? ⟨w.heap.size, 0, none⟩ = some (.int .i32 a) ∧ w'.cell? ⟨w.heap.size, 1, none⟩ = some (.int .i32 b) ∧ w'.cell? ⟨w.heap.size + 1, 0, none⟩ = some (.int .i32 c) ∧ w'.cell? ⟨w.heap.size + 1, 1, none⟩ = some (.int .i32 d)) (go_keep) (first | (go_at_call 281; refine (fMul_p (by first | exact HA.out | exact HB.out) (by first | exact HC.out | exact HD.out) _).mono ?_; rintro e w1 ⟨rfl, rfl⟩))
 all_goals
  go_wp2
  refine bodyPost_ret (v := .agg #[.int .i32 (fmul a c), .int .i32 (fmul b d)]) (by simp [results, Tryz.results247, go_sem]) rfl ⟨rfl, (by repeat (first | exact Below.refl _ _ | (with_reducible assumption) | apply bAlloc | apply below_drewN | apply Below.drew))⟩
end
theorem bcell {W w1 : World} (hb : Below W.heap.size W w1) : (∀ b o, b < W.heap.size → w1.cell? ⟨b, o, none⟩ = W.cell? ⟨b, o, none⟩) ∧ (∀ b o, b < W.heap.size → w1.frozen? ⟨b, o, none⟩ = W.frozen? ⟨b, o, none⟩) :=
 ⟨fun b o h => hb.cell (p := ⟨b, o, none⟩) h, fun b o h => hb.frozen (p := ⟨b, o, none⟩) h⟩
section
variable {a b c d : Int} (ha : F32 a) (hb : F32 b) (hc : F32 c) (hd : F32 d) (w : World)
include ha hb hc hd
theorem sAdd_any : Calls Tryz.prog 194 #[.agg #[.int .i32 a, .int .i32 b], .agg #[.int .i32 c, .int .i32 d]] w fun e w' => e = .returned (.agg #[.int .i32 (padd a c), .int .i32 (padd b d)]) ∧ Below w.heap.size w w' := by
 have HA := zz ha
 have HB := zz hb
 have HC := zz hc
 have HD := zz hd
 clear ha hb hc hd
 go_enter Tryz.func194, Tryz.ntmps194
 go_wp2_with fail
 refine (each_fAdd HA.out HB.out HC.out HD.out _).mono ?_
 rintro e w1 ⟨rfl, k1⟩
 obtain ⟨k1c, k1f⟩ := bcell k1
 have k1z := k1.size
 simp at k1z
 go_wp2
 refine bodyPost_ret (v := .agg #[.int .i32 (padd a c), .int .i32 (padd b d)]) (by simp [results, Tryz.results194, go_sem, k1c]) rfl ⟨rfl, (by repeat (first | exact Below.refl _ _ | (with_reducible assumption) | apply bAlloc | apply below_drewN | apply Below.drew | (refine bSetG ?_ (by first | omega | (simp; omega)) _ _) | (refine bTrans ?_ (by with_reducible assumption))))⟩
theorem sSub_any : Calls Tryz.prog 243 #[.agg #[.int .i32 a, .int .i32 b], .agg #[.int .i32 c, .int .i32 d]] w fun e w' => e = .returned (.agg #[.int .i32 (psub a c), .int .i32 (psub b d)]) ∧ Below w.heap.size w w' := by
 have HA := zz ha
 have HB := zz hb
 have HC := zz hc
 have HD := zz hd
 clear ha hb hc hd
 go_enter Tryz.func243, Tryz.ntmps243
 go_wp2_with fail
 refine (each_fSub HA.out HB.out HC.out HD.out _).mono ?_
 rintro e w1 ⟨rfl, k1⟩
 obtain ⟨k1c, k1f⟩ := bcell k1
 have k1z := k1.size
 simp at k1z
 go_wp2
 refine bodyPost_ret (v := .agg #[.int .i32 (psub a c), .int .i32 (psub b d)]) (by simp [results, Tryz.results243, go_sem, k1c]) rfl ⟨rfl, (by repeat (first | exact Below.refl _ _ | (with_reducible assumption) | apply bAlloc | apply below_drewN | apply Below.drew | (refine bSetG ?_ (by first | omega | (simp; omega)) _ _) | (refine bTrans ?_ (by with_reducible assumption))))⟩
theorem r10Less_any : Calls Tryz.prog 217 #[.agg #[.int .i32 a, .int .i32 b], .agg #[.int .i32 c, .int .i32 d]] w fun e w' => e = .returned (.agg #[.int .i32 (psub a c), .int .i32 (psub b d)]) ∧ Below w.heap.size w w' := by
 have HA := zz ha
 have HB := zz hb
 have HC := zz hc
 have HD := zz hd
 clear ha hb hc hd
 go_enter Tryz.func217, Tryz.ntmps217
 go_wp2
 go_region_held3 (fun w' => w'.cell? ⟨w.heap.size, 0, none⟩ = some (.int .i32 a) ∧ w'.cell? ⟨w.heap.size, 1, none⟩ = some (.int .i32 b) ∧ w'.cell? ⟨w.heap.size + 1, 0, none⟩ = some (.int .i32 c) ∧ w'.cell? ⟨w.heap.size + 1, 1, none⟩ = some (.int .i32 d)) (go_keep) (first | (go_at_call 261; refine (r10Sub_p (by first | exact HA.out | exact HB.out) (by first | exact HC.out | exact HD.out) _).mono ?_; rintro e w1 ⟨rfl, rfl⟩))
 all_goals
  go_wp2
  refine bodyPost_ret (v := .agg #[.int .i32 (psub a c), .int .i32 (psub b d)]) (by simp [results, Tryz.results217, go_sem]) rfl ⟨rfl, (by repeat (first | exact Below.refl _ _ | (with_reducible assumption) | apply bAlloc | apply below_drewN | apply Below.drew))⟩
theorem r10Plus_any : Calls Tryz.prog 212 #[.agg #[.int .i32 a, .int .i32 b], .agg #[.int .i32 c, .int .i32 d]] w fun e w' => e = .returned (.agg #[.int .i32 (padd a c), .int .i32 (padd b d)]) ∧ Below w.heap.size w w' := by
 have HA := zz ha
 have HB := zz hb
 have HC := zz hc
 have HD := zz hd
 clear ha hb hc hd
 go_enter Tryz.func212, Tryz.ntmps212
 go_wp2
 go_region_held3 (fun w' => w'.cell? ⟨w.heap.size, 0, none⟩ = some (.int .i32 a) ∧ w'.cell? ⟨w.heap.size, 1, none⟩ = some (.int .i32 b) ∧ w'.cell? ⟨w.heap.size + 1, 0, none⟩ = some (.int .i32 c) ∧ w'.cell? ⟨w.heap.size + 1, 1, none⟩ = some (.int .i32 d)) (go_keep) (first | (go_at_call 218; refine (r10Add_p (by first | exact HA.out | exact HB.out) (by first | exact HC.out | exact HD.out) _).mono ?_; rintro e w1 ⟨rfl, rfl⟩))
 all_goals
  go_wp2
  refine bodyPost_ret (v := .agg #[.int .i32 (padd a c), .int .i32 (padd b d)]) (by simp [results, Tryz.results212, go_sem]) rfl ⟨rfl, (by repeat (first | exact Below.refl _ _ | (with_reducible assumption) | apply bAlloc | apply below_drewN | apply Below.drew))⟩
end
section
variable {a b s : Int} (ha : F32 a) (hb : F32 b) (hs : F32 s) (w : World)
include ha hb hs
theorem sScale_any : Calls Tryz.prog 239 #[.agg #[.int .i32 a, .int .i32 b], .int .i32 s] w fun e w' => e = .returned (.agg #[.int .i32 (fmul a s), .int .i32 (fmul b s)]) ∧ Below w.heap.size w w' := by
 have HA := zz ha
 have HB := zz hb
 have HS := zz hs
 clear ha hb hs
 go_enter Tryz.func239, Tryz.ntmps239
 go_wp2_with fail
 refine (each_fMul HA.out HB.out HS.out HS.out _).mono ?_
 rintro e w1 ⟨rfl, k1⟩
 obtain ⟨k1c, k1f⟩ := bcell k1
 have k1z := k1.size
 simp at k1z
 go_wp2
 refine bodyPost_ret (v := .agg #[.int .i32 (fmul a s), .int .i32 (fmul b s)]) (by simp [results, Tryz.results239, go_sem, k1c]) rfl ⟨rfl, (by repeat (first | exact Below.refl _ _ | (with_reducible assumption) | apply bAlloc | apply below_drewN | apply Below.drew | (refine bSetG ?_ (by first | omega | (simp; omega)) _ _) | (refine bTrans ?_ (by with_reducible assumption))))⟩
theorem r10Scale_any : Calls Tryz.prog 211 #[.agg #[.int .i32 a, .int .i32 b], .int .i32 s] w fun e w' => e = .returned (.agg #[.int .i32 (fmul a s), .int .i32 (fmul b s)]) ∧ Below w.heap.size w w' := by
 have HA := zz ha
 have HB := zz hb
 have HS := zz hs
 clear ha hb hs
 go_enter Tryz.func211, Tryz.ntmps211
 go_wp2
 go_region_held3 (fun w' => w'.cell? ⟨w.heap.size, 0, none⟩ = some (.int .i32 a) ∧ w'.cell? ⟨w.heap.size, 1, none⟩ = some (.int .i32 b)) (go_keep) (first | (go_at_call 256; refine (r01Mul_any (by first | exact HA.out | exact HB.out) HS.out _).mono ?_; rintro e w1 ⟨rfl, rfl⟩))
 all_goals
  go_wp2
  refine bodyPost_ret (v := .agg #[.int .i32 (fmul a s), .int .i32 (fmul b s)]) (by simp [results, Tryz.results211, go_sem]) rfl ⟨rfl, (by repeat (first | exact Below.refl _ _ | (with_reducible assumption) | apply bAlloc | apply below_drewN | apply Below.drew))⟩
end
def rightB (lx ly hx hy : Int) : Bool := decide (lx ≤ hx ∧ ly ≤ hy)
def insideB (lx ly hx hy x y : Int) : Bool := decide (lx ≤ x ∧ x ≤ hx ∧ ly ≤ y ∧ y ≤ hy)
section
variable (lx ly hx hy x y : Int) (w : World)
theorem sInside_any : Calls Tryz.prog 195 #[.agg #[.int .i32 lx, .int .i32 ly, .int .i32 hx, .int .i32 hy], .agg #[.int .i32 x, .int .i32 y]] w fun e w' => e = .returned (.bool (insideB lx ly hx hy x y)) ∧ Below w.heap.size w w' := by
 go_enter Tryz.func195, Tryz.ntmps195
 go_wp2
 all_goals
  go_ret
  exact ⟨ret_bool (by unfold insideB; exact (by first | (refine (decide_eq_true ?_).symm; omega) | (refine (decide_eq_false ?_).symm; omega) | (refine decide_eq_decide.2 ?_; omega) | (rw [Bool.eq_iff_iff]; simp; omega))), (by repeat (first | exact Below.refl _ _ | (with_reducible assumption) | apply bAlloc | apply below_drewN | apply Below.drew))⟩
theorem r10Inside_any : Calls Tryz.prog 223 #[.agg #[.int .i32 lx, .int .i32 ly, .int .i32 hx, .int .i32 hy], .agg #[.int .i32 x, .int .i32 y]] w fun e w' => e = .returned (.bool (insideB lx ly hx hy x y)) ∧ Below w.heap.size w w' := by
 go_enter Tryz.func223, Tryz.ntmps223
 go_wp2
 all_goals
  go_ret
  exact ⟨ret_bool (by unfold insideB; exact (by first | (refine (decide_eq_true ?_).symm; omega) | (refine (decide_eq_false ?_).symm; omega) | (refine decide_eq_decide.2 ?_; omega) | (rw [Bool.eq_iff_iff]; simp; omega))), (by repeat (first | exact Below.refl _ _ | (with_reducible assumption) | apply bAlloc | apply below_drewN | apply Below.drew))⟩
theorem sRight_any : Calls Tryz.prog 286 #[.agg #[.int .i32 lx, .int .i32 ly, .int .i32 hx, .int .i32 hy]] w fun e w' => e = .returned (.bool (rightB lx ly hx hy)) ∧ Below w.heap.size w w' := by
 go_enter Tryz.func286, Tryz.ntmps286
 go_wp2
 all_goals
  go_ret
  exact ⟨ret_bool (by unfold rightB; exact (by first | (refine (decide_eq_true ?_).symm; omega) | (refine (decide_eq_false ?_).symm; omega) | (refine decide_eq_decide.2 ?_; omega) | (rw [Bool.eq_iff_iff]; simp; omega))), (by repeat (first | exact Below.refl _ _ | (with_reducible assumption) | apply bAlloc | apply below_drewN | apply Below.drew))⟩
end
end
end Go.Proofs.YtibeihcpehikoaaGreat
