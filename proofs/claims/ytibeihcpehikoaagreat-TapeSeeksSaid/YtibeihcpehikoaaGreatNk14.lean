/-
  The walks of what shrinks, and of the document's move.
-/
import Derived.Deep.DeepCutAuto
import Derived.Test.YtibeihcpehikoaaGreatNk12
namespace Go.Proofs.YtibeihcpehikoaaGreat
open Go.RowKit
set_option maxRecDepth 100000
set_option maxHeartbeats 2000000
section
section
variable {a b c d s : Int} (ha : F32 a) (hb : F32 b) (hc : F32 c) (hd : F32 d) (hs : F32 s) (hr : rightB (padd a s) (padd b s) (psub c s) (psub d s) = true) (w : World)
include ha hb hc hd hs hr
theorem sShrink_any : Calls Tryz.prog 279 #[.agg #[.int .i32 a, .int .i32 b, .int .i32 c, .int .i32 d], .int .i32 s] w fun e w' => e = .returned (.tuple #[.agg #[.int .i32 (padd a s), .int .i32 (padd b s), .int .i32 (psub c s), .int .i32 (psub d s)], .bool true]) ∧ Below w.heap.size w w' := by
  have HA := zz ha
  have HB := zz hb
  have HC := zz hc
  have HD := zz hd
  clear ha hb hc hd
  have HS := zz hs
  have HR := zz hr
  clear hs hr
  go_enter Tryz.func279, Tryz.ntmps279
  go_upto_region 2 with fail
  obtain ⟨W3, hW3⟩ : ∃ W3, W3 = ((w.alloc (.cells #[.int .i32 a, .int .i32 b, .int .i32 c, .int .i32 d] 273)).alloc (.cells #[.int .i32 0, .int .i32 0, .int .i32 0, .int .i32 0] 273)).alloc (.cells #[.int .i32 s, .int .i32 s] 33) := ⟨_, rfl⟩
  rw [← hW3]
  have hb3 : Below w.heap.size w W3 := by rw [hW3]; exact (by repeat (first | exact Below.refl _ _ | (with_reducible assumption) | apply bAlloc | apply below_drewN | apply Below.drew | (refine bSetG ?_ (by first | omega | (simp; omega)) _ _) | (refine bTrans ?_ (by with_reducible assumption))))
  have bA : Blk W3 w.heap.size 273 #[.int .i32 a, .int .i32 b, .int .i32 c, .int .i32 d] := by rw [hW3]; exact (by repeat (first | ((with_reducible refine blk_new_at ?_); first | rfl | (simp; done)) | (with_reducible refine Blk.alloc ?_ _) | (with_reducible refine Blk.drew ?_)))
  have bR : Blk W3 (w.heap.size + 1) 273 #[.int .i32 0, .int .i32 0, .int .i32 0, .int .i32 0] := by rw [hW3]; exact (by repeat (first | ((with_reducible refine blk_new_at ?_); first | rfl | (simp; done)) | (with_reducible refine Blk.alloc ?_ _) | (with_reducible refine Blk.drew ?_)))
  have bS : Blk W3 (w.heap.size + 1 + 1) 33 #[.int .i32 s, .int .i32 s] := by rw [hW3]; exact (by repeat (first | ((with_reducible refine blk_new_at ?_); first | rfl | (simp; done)) | (with_reducible refine Blk.alloc ?_ _) | (with_reducible refine Blk.drew ?_)))
  clear hW3
  have p := bA
  have pa := p.cell 0
  have pb := p.cell 1
  have pc := p.cell 2
  have pd := p.cell 3
  have pe := p.frozen 0
  have pf := p.frozen 1
  have pg := p.frozen 2
  have ph := p.frozen 3
  have pl := p.lt
  simp only [zA, zB, zC] at pa pb pc pd
  have q := bS
  have qa := q.cell 0
  have qb := q.cell 1
  have qc := q.frozen 0
  have qd := q.frozen 1
  have ql := q.lt
  simp only [zA, zB, zC] at qa qb
  clear q
  have HBR := zz bR
  have HBA := zz bA
  have HB3 := zz hb3
  clear bA bR bS p hb3
  go_cut [7] (fun s7 wx => ∃ g : Nat, s7 = .pointer (some ⟨g, 0, none⟩) ∧ Blk wx g 273 #[.int .i32 (padd a s), .int .i32 (padd b s), .int .i32 (psub c s), .int .i32 (psub d s)] ∧ Blk wx (w.heap.size + 1) 273 #[.int .i32 0, .int .i32 0, .int .i32 0, .int .i32 0] ∧ Below w.heap.size w wx)
  case first =>
    go_region_held3 (fun w' => w'.cell? ⟨w.heap.size, 0, none⟩ = some (.int .i32 a) ∧ w'.cell? ⟨w.heap.size, 1, none⟩ = some (.int .i32 b) ∧ w'.cell? ⟨w.heap.size, 2, none⟩ = some (.int .i32 c) ∧ w'.cell? ⟨w.heap.size, 3, none⟩ = some (.int .i32 d) ∧ w'.cell? ⟨w.heap.size + 1 + 1, 0, none⟩ = some (.int .i32 s) ∧ w'.cell? ⟨w.heap.size + 1 + 1, 1, none⟩ = some (.int .i32 s))
      (first | go_keep | (go_split_ands; refine ⟨?_, ?_, ?_, ?_, ?_, ?_⟩ <;> (rw [hb5.cell (by simp; omega)]; assumption)) | (go_split_ands; refine ⟨?_, ?_, ?_, ?_, ?_, ?_⟩ <;> (rw [hb4.cell (by simp; omega)]; assumption)))
      (first
        | (go_at_call 194; refine (sAdd_any HA.out HB.out HS.out HS.out _).mono ?_; rintro e w4 ⟨rfl, hb4⟩; have hz4 : W3.heap.size ≤ w4.heap.size := (by have := hb4.size; (try simp at this); first | exact this | omega); (try have g2 : Blk w4 W3.heap.size 273 #[.int .i32 0, .int .i32 0, .int .i32 0, .int .i32 0] := (Blk.new W3.drew 273 #[.int .i32 0, .int .i32 0, .int .i32 0, .int .i32 0]).on hb4); have hn1 : ¬ w4.heap.size = w.heap.size := (by omega); have hn2 : ¬ w4.heap.size = w.heap.size + 1 + 1 := (by omega); go_split_ands; have k0 : w4.cell? ⟨w.heap.size, 0, none⟩ = some (.int .i32 a) := (by rw [hb4.cell (by simp; omega)]; assumption); have k1 : w4.cell? ⟨w.heap.size, 1, none⟩ = some (.int .i32 b) := (by rw [hb4.cell (by simp; omega)]; assumption); have k2 : w4.cell? ⟨w.heap.size, 2, none⟩ = some (.int .i32 c) := (by rw [hb4.cell (by simp; omega)]; assumption); have k3 : w4.cell? ⟨w.heap.size, 3, none⟩ = some (.int .i32 d) := (by rw [hb4.cell (by simp; omega)]; assumption); have k4 : w4.cell? ⟨w.heap.size + 1 + 1, 0, none⟩ = some (.int .i32 s) := (by rw [hb4.cell (by simp; omega)]; assumption); have k5 : w4.cell? ⟨w.heap.size + 1 + 1, 1, none⟩ = some (.int .i32 s) := (by rw [hb4.cell (by simp; omega)]; assumption))
        | (go_at_call 243; refine (sSub_any HC.out HD.out HS.out HS.out _).mono ?_; rintro e w5 ⟨rfl, hb5⟩; have hz5 : w4.heap.size ≤ w5.heap.size := (by have := hb5.size; (try simp at this); first | exact this | omega); have hn3 : ¬ w5.heap.size = w.heap.size := (by omega); have hn4 : ¬ w5.heap.size = w.heap.size + 1 + 1 := (by omega); have hn5 : ¬ W3.heap.size = w.heap.size := (by omega); have hn6 : ¬ W3.heap.size = w.heap.size + 1 + 1 := (by omega); go_split_ands; have k0 : w5.cell? ⟨w.heap.size, 0, none⟩ = some (.int .i32 a) := (by rw [hb5.cell (by simp; omega)]; assumption); have k1 : w5.cell? ⟨w.heap.size, 1, none⟩ = some (.int .i32 b) := (by rw [hb5.cell (by simp; omega)]; assumption); have k2 : w5.cell? ⟨w.heap.size, 2, none⟩ = some (.int .i32 c) := (by rw [hb5.cell (by simp; omega)]; assumption); have k3 : w5.cell? ⟨w.heap.size, 3, none⟩ = some (.int .i32 d) := (by rw [hb5.cell (by simp; omega)]; assumption); have k4 : w5.cell? ⟨w.heap.size + 1 + 1, 0, none⟩ = some (.int .i32 s) := (by rw [hb5.cell (by simp; omega)]; assumption); have k5 : w5.cell? ⟨w.heap.size + 1 + 1, 1, none⟩ = some (.int .i32 s) := (by rw [hb5.cell (by simp; omega)]; assumption); (first | (have g3 := g2.on hb5; have g3a := g3.cell 0; have g3b := g3.cell 1; have g3c := g3.cell 2; have g3d := g3.cell 3; have g3e := g3.frozen 0; have g3f := g3.frozen 1; have g3g := g3.frozen 2; have g3h := g3.frozen 3; simp only [zA, zB, zC] at g3a g3b g3c g3d) | (have g3 := (Blk.new w4 273 #[.int .i32 0, .int .i32 0, .int .i32 0, .int .i32 0]).on hb5; have g3a := g3.cell 0; have g3b := g3.cell 1; have g3c := g3.cell 2; have g3d := g3.cell 3; have g3e := g3.frozen 0; have g3f := g3.frozen 1; have g3g := g3.frozen 2; have g3h := g3.frozen 3; simp only [zA, zB, zC] at g3a g3b g3c g3d) | skip)))
    all_goals
      go_wp2_with fail
      go_meet
      have hd3 : Below w.heap.size w W3.drew := HB3.out.drew
      first
        | ((with_reducible refine ⟨w5.heap.size, rfl, ?_, ?_, ?_⟩)
           · exact Blk.new _ _ _
           · exact ((HBR.out.drew.on hb4).on hb5).alloc _
           · exact bAlloc (bTrans (bTrans hd3 hb4) hb5) _)
        | ((with_reducible refine ⟨w4.heap.size, rfl, ?_, ?_, ?_⟩)
           · exact ((((g3.set 0 _).set 1 _).set 2 _).set 3 _)
           · exact ((((((HBR.out.drew.on hb4).alloc _).on hb5).farG (by omega) _ _).farG (by omega) _ _).farG (by omega) _ _).farG (by omega) _ _
           · exact bSetG (bSetG (bSetG (bSetG (bTrans (bAlloc (bTrans hd3 hb4) _) hb5) (by omega) _ _) (by omega) _ _) (by omega) _ _) (by omega) _ _)
        | ((with_reducible refine ⟨W3.heap.size, rfl, ?_, ?_, ?_⟩)
           · exact ((((g3.set 0 _).set 1 _).set 2 _).set 3 _)
           · exact ((((((HBR.out.drew.alloc _).on hb4).on hb5).farG (by omega) _ _).farG (by omega) _ _).farG (by omega) _ _).farG (by omega) _ _
           · exact bSetG (bSetG (bSetG (bSetG (bTrans (bTrans (bAlloc hd3 _) hb4) hb5) (by omega) _ _) (by omega) _ _) (by omega) _ _) (by omega) _ _)
        | fail
  case rest =>
    obtain ⟨g, rfl, bg, br, hb⟩ := hcut
    have HBG := zz bg
    have HBR2 := zz br
    have x := bg
    have xa := x.cell 0
    have xb := x.cell 1
    have xc := x.cell 2
    have xd := x.cell 3
    have xe := x.frozen 0
    have xf := x.frozen 1
    have xg := x.frozen 2
    have xh := x.frozen 3
    have xl := x.lt
    simp only [zA, zB, zC] at xa xb xc xd
    clear x bg br
    go_wp2_with fail
    refine (sRight_any _ _ _ _ _).mono ?_
    rw [HR.out]
    rintro e w6 ⟨rfl, k6⟩
    have hb6 := bTrans hb k6
    have y := HBG.out.on k6
    have ya := y.cell 0
    have yb := y.cell 1
    have yc := y.cell 2
    have yd := y.cell 3
    have ye := y.frozen 0
    have yf := y.frozen 1
    have yg := y.frozen 2
    have yh := y.frozen 3
    have yl := y.lt
    simp only [zA, zB, zC] at ya yb yc yd
    have z := HBR2.out.on k6
    have za := z.cell 0
    have zb := z.cell 1
    have zc := z.cell 2
    have zd := z.cell 3
    have ze := z.frozen 0
    have zf := z.frozen 1
    have zg := z.frozen 2
    have zh := z.frozen 3
    have zl := z.lt
    simp only [zA, zB, zC] at za zb zc zd
    clear y z
    go_wp2
    refine bodyPost_ret (v := .tuple #[.agg #[.int .i32 (padd a s), .int .i32 (padd b s), .int .i32 (psub c s), .int .i32 (psub d s)], .bool true]) (by simp [results, Tryz.results279, go_sem, za, zb, zc, zd]) rfl ⟨rfl, (by repeat (first | exact Below.refl _ _ | (with_reducible assumption) | apply bAlloc | apply below_drewN | apply Below.drew | (refine bSetG ?_ (by first | omega | (simp; omega)) _ _) | (refine bTrans ?_ (by with_reducible assumption))))⟩
end
end
end Go.Proofs.YtibeihcpehikoaaGreat
