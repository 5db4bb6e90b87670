/-
  The document's places and boxes, and what its bot sees.
-/
import Derived.Test.YtnaclkaapicelaaGreatBot4
namespace Go.Proofs.YtnaclkaapicelaaGreat
open Go.RowKit
set_option maxRecDepth 100000
set_option maxHeartbeats 1000000 in
theorem r12Vec_any (x y : Int) (hx : -32768 ≤ x ∧ x ≤ 32767) (hy : -32768 ≤ y ∧ y ≤ 32767) (w : World) : Calls Tryz.prog 69 #[.int .i64 x, .int .i64 y] w fun e w' => e = .returned (.agg #[.int .i32 (x * 65536), .int .i32 (y * 65536)]) ∧ Below w.heap.size w w' := by
  obtain ⟨x1, x2⟩ := hx
  obtain ⟨y1, y2⟩ := hy
  have ex : IntKind.i32.wrap (x * 65536) = x * 65536 := by rw [IntKind.wrap_i32]; omega
  have ey : IntKind.i32.wrap (y * 65536) = y * 65536 := by rw [IntKind.wrap_i32]; omega
  go_enter Tryz.func69, Tryz.ntmps69
  go_wp2
  refine bodyPost_ret (v := .agg #[.int .i32 (x * 65536), .int .i32 (y * 65536)]) (by simp [results, Tryz.results69, go_sem]) rfl ⟨rfl, (by repeat (first | exact Below.refl _ _ | (with_reducible assumption) | apply bAlloc | apply below_drewN | apply Below.drew))⟩
set_option maxHeartbeats 1000000 in
theorem r12Box_60 (w : World) : Calls Tryz.prog 34 #[.int .i64 60] w fun e w' => e = .returned (.agg #[.int .i32 (-3932160), .int .i32 (-3932160), .int .i32 3932160, .int .i32 3932160]) ∧ Below w.heap.size w w' := by
  have HA := Lib.hid (fun W => r12Vec_any (-60) (-60) (by decide) (by decide) W)
  have HB := Lib.hid (fun W => r12Vec_any 60 60 (by decide) (by decide) W)
  go_enter Tryz.func34, Tryz.ntmps34
  go_wp2_with fail
  refine (HA.out _).mono ?_
  rintro e w1 ⟨rfl, k1⟩
  go_wp2_with fail
  refine (HB.out _).mono ?_
  rintro e w2 ⟨rfl, k2⟩
  have hr := ((Blk.new w 81 #[.int .i32 0, .int .i32 0, .int .i32 0, .int .i32 0]).on k1).on k2
  have hb : Below w.heap.size w w2 := bTrans (bTrans (bAlloc (Below.refl _ _) _) k1) k2
  have r := hr
  have ra := r.cell 0
  have rb := r.cell 1
  have rc := r.cell 2
  have rd := r.cell 3
  have re := r.frozen 0
  have rf := r.frozen 1
  have rg := r.frozen 2
  have rh := r.frozen 3
  have rl := r.lt
  simp only [List.getElem?_toArray, List.getElem?_cons_zero, List.getElem?_cons_succ] at ra rb rc rd
  clear k1 k2 r hr
  go_wp2
  refine bodyPost_ret (v := .agg #[.int .i32 (-3932160), .int .i32 (-3932160), .int .i32 3932160, .int .i32 3932160]) (by simp [results, Tryz.results34, go_sem, ra, rb, rc, rd]) rfl ⟨rfl, (by repeat (first | exact Below.refl _ _ | (with_reducible assumption) | apply bAlloc | apply below_drewN | apply Below.drew | (refine bSetG ?_ (by first | omega | (simp; omega)) _ _) | (refine bTrans ?_ (by with_reducible assumption))))⟩
set_option maxHeartbeats 1000000 in
theorem r12Box_64 (w : World) : Calls Tryz.prog 34 #[.int .i64 64] w fun e w' => e = .returned (.agg #[.int .i32 (-4194304), .int .i32 (-4194304), .int .i32 4194304, .int .i32 4194304]) ∧ Below w.heap.size w w' := by
  have HA := Lib.hid (fun W => r12Vec_any (-64) (-64) (by decide) (by decide) W)
  have HB := Lib.hid (fun W => r12Vec_any 64 64 (by decide) (by decide) W)
  go_enter Tryz.func34, Tryz.ntmps34
  go_wp2_with fail
  refine (HA.out _).mono ?_
  rintro e w1 ⟨rfl, k1⟩
  go_wp2_with fail
  refine (HB.out _).mono ?_
  rintro e w2 ⟨rfl, k2⟩
  have hr := ((Blk.new w 81 #[.int .i32 0, .int .i32 0, .int .i32 0, .int .i32 0]).on k1).on k2
  have hb : Below w.heap.size w w2 := bTrans (bTrans (bAlloc (Below.refl _ _) _) k1) k2
  have r := hr
  have ra := r.cell 0
  have rb := r.cell 1
  have rc := r.cell 2
  have rd := r.cell 3
  have re := r.frozen 0
  have rf := r.frozen 1
  have rg := r.frozen 2
  have rh := r.frozen 3
  have rl := r.lt
  simp only [List.getElem?_toArray, List.getElem?_cons_zero, List.getElem?_cons_succ] at ra rb rc rd
  clear k1 k2 r hr
  go_wp2
  refine bodyPost_ret (v := .agg #[.int .i32 (-4194304), .int .i32 (-4194304), .int .i32 4194304, .int .i32 4194304]) (by simp [results, Tryz.results34, go_sem, ra, rb, rc, rd]) rfl ⟨rfl, (by repeat (first | exact Below.refl _ _ | (with_reducible assumption) | apply bAlloc | apply below_drewN | apply Below.drew | (refine bSetG ?_ (by first | omega | (simp; omega)) _ _) | (refine bTrans ?_ (by with_reducible assumption))))⟩
end Go.Proofs.YtnaclkaapicelaaGreat
