/-
  What a page answers to an event that may not be, and to one for which it has no room.
-/
import Derived.Test.YtdjfpdndaobohaaEventAddG
namespace Go.Proofs.Ytdjfpdndaobohaa
open Go.RowKit
set_option maxRecDepth 100000
set_option linter.unusedSimpArgs false
set_option maxHeartbeats 4000000 in
theorem add_bad (gp : Nat) (F : Int) (A : Option Addr) (n c : Nat) (x : Ev) (w : World) (hP : Blk w gp 60 #[.int .i64 F, .slice A n c]) (hok : evOk (x.at_ F 0) = false) :
    Calls Try.prog 10 #[.pointer (some ⟨gp, 0, none⟩), x.val] w fun e w' => e = .returned (.tuple #[.agg #[.int .i64 0, .int .i64 0, .int .i64 0, .int .i64 0], .int .i64 1]) ∧ Below w.heap.size w w' := by
  have p0 := hP.cell 0
  simp only [List.getElem?_toArray, List.getElem?_cons_zero, List.getElem?_cons_succ] at p0
  have hpl := hP.lt
  have HOK := Lib.hid hok
  clear hP hok
  unfold Ev.val
  go_enter Try.func10, Try.ntmps10
  go_wp2_with fail
  obtain ⟨w0, hw0⟩ : ∃ w0, w0 = (w.alloc (.cells #[.int .i64 F, .int .i64 x.emitter, .int .i64 x.kind, .int .i64 0, .int .i64 x.asset, .int .i64 x.gain, .int .i64 x.pan, .int .i64 x.prio, .int .i64 x.len] 25)).alloc (.cells #[.int .i64 0, .int .i64 0, .int .i64 0, .int .i64 0] 23) := ⟨_, rfl⟩
  have hb0 : Below w.heap.size w w0 := by rw [hw0]; exact bAlloc (bAlloc (Below.refl _ _) _) _
  have hk0 : Blk w0 w.heap.size 25 #[.int .i64 F, .int .i64 x.emitter, .int .i64 x.kind, .int .i64 0, .int .i64 x.asset, .int .i64 x.gain, .int .i64 x.pan, .int .i64 x.prio, .int .i64 x.len] := by rw [hw0]; exact (Blk.new _ _ _).alloc _
  have hz0 : Blk w0 (w.heap.size + 1) 23 #[.int .i64 0, .int .i64 0, .int .i64 0, .int .i64 0] := by
    rw [hw0]
    have := Blk.new (w.alloc (.cells #[.int .i64 F, .int .i64 x.emitter, .int .i64 x.kind, .int .i64 0, .int .i64 x.asset, .int .i64 x.gain, .int .i64 x.pan, .int .i64 x.prio, .int .i64 x.len] 25)) 23 #[.int .i64 0, .int .i64 0, .int .i64 0, .int .i64 0]
    simpa using this
  rw [← hw0]
  clear hw0
  refine (right_any (x.at_ F 0) _).mono ?_
  rintro e w1 ⟨rfl, hb1⟩
  rw [HOK.out]
  have hbw1 : Below w.heap.size w w1 := bTrans hb0 hb1
  have HK1 := Lib.hid (hk0.on hb1)
  have HZ1 := Lib.hid (hz0.on hb1)
  clear hk0 hz0 hb0 hb1
  obtain ⟨t0, t1, t2, t3⟩ := Blk.key (HZ1).out
  have tf0 := (HZ1).out.frozen 0
  have tf1 := (HZ1).out.frozen 1
  have tf2 := (HZ1).out.frozen 2
  have tf3 := (HZ1).out.frozen 3
  have tl := (HZ1).out.lt
  go_wp2
  refine bodyPost_ret (v := .tuple #[.agg #[.int .i64 0, .int .i64 0, .int .i64 0, .int .i64 0], .int .i64 1]) (by simp [results, Try.results10, go_sem, t0, t1, t2, t3]) rfl ⟨rfl, ?_⟩
  exact bSetG (bSetG (bSetG (bSetG (hbw1) (by omega) _ _) (by omega) _ _) (by omega) _ _) (by omega) _ _
set_option maxHeartbeats 4000000 in
theorem add_full (gp : Nat) (F : Int) (A : Option Addr) (n c : Nat) (L : List Ev) (x : Ev) (base : Nat) (w : World) (hP : Blk w gp 60 #[.int .i64 F, .slice A n c]) (hA : OwnL w base 25 9 (.slice A n c) Ev.cells L)
    (hn : n ≤ 1000) (hL : PageOk F L) (hok : evOk (x.at_ F 0) = true) (hful : 64 ≤ n ∨ 15 < cntE L x.emitter x.kind) :
    Calls Try.prog 10 #[.pointer (some ⟨gp, 0, none⟩), x.val] w fun e w' => e = .returned (.tuple #[.agg #[.int .i64 0, .int .i64 0, .int .i64 0, .int .i64 0], .int .i64 8]) ∧ Below w.heap.size w w' := by
  have p0 := hP.cell 0
  have p1 := hP.cell 1
  simp only [List.getElem?_toArray, List.getElem?_cons_zero, List.getElem?_cons_succ] at p0 p1
  have hpl := hP.lt
  have HA := Lib.hid hA
  have HS := Lib.hid hL.sorted
  have HOK := Lib.hid hok
  have hfree : foundK L (x.at_ F (cntE L x.emitter x.kind : Nat)).key = false := hL.free x
  have hfull : ∀ s : Nat, s < cntE L x.emitter x.kind → foundK L (x.at_ F s).key = true := fun s hs => hL.full x s hs
  have hrn : cntE L x.emitter x.kind ≤ n := by rw [hA.len]; exact cntE_le _ _ _
  obtain ⟨r, hr⟩ : ∃ r, cntE L x.emitter x.kind = r := ⟨_, rfl⟩
  rw [hr] at hfree hfull hful hrn
  have HFU := Lib.hid hfull
  have HFR := Lib.hid hfree
  have HLN := Lib.hid hA.len
  clear hP hA hL hok hfree hfull hr
  unfold Ev.val
  go_enter Try.func10, Try.ntmps10
  go_wp2_with fail
  obtain ⟨w0, hw0⟩ : ∃ w0, w0 = (w.alloc (.cells #[.int .i64 F, .int .i64 x.emitter, .int .i64 x.kind, .int .i64 0, .int .i64 x.asset, .int .i64 x.gain, .int .i64 x.pan, .int .i64 x.prio, .int .i64 x.len] 25)).alloc (.cells #[.int .i64 0, .int .i64 0, .int .i64 0, .int .i64 0] 23) := ⟨_, rfl⟩
  have hb0 : Below w.heap.size w w0 := by rw [hw0]; exact bAlloc (bAlloc (Below.refl _ _) _) _
  have hk0 : Blk w0 w.heap.size 25 #[.int .i64 F, .int .i64 x.emitter, .int .i64 x.kind, .int .i64 0, .int .i64 x.asset, .int .i64 x.gain, .int .i64 x.pan, .int .i64 x.prio, .int .i64 x.len] := by rw [hw0]; exact (Blk.new _ _ _).alloc _
  have hz0 : Blk w0 (w.heap.size + 1) 23 #[.int .i64 0, .int .i64 0, .int .i64 0, .int .i64 0] := by
    rw [hw0]
    have := Blk.new (w.alloc (.cells #[.int .i64 F, .int .i64 x.emitter, .int .i64 x.kind, .int .i64 0, .int .i64 x.asset, .int .i64 x.gain, .int .i64 x.pan, .int .i64 x.prio, .int .i64 x.len] 25)) 23 #[.int .i64 0, .int .i64 0, .int .i64 0, .int .i64 0]
    simpa using this
  rw [← hw0]
  clear hw0
  refine (right_any (x.at_ F 0) _).mono ?_
  rintro e w1 ⟨rfl, hb1⟩
  rw [HOK.out]
  have hbw1 : Below w.heap.size w w1 := bTrans hb0 hb1
  have HK1 := Lib.hid (hk0.on hb1)
  have HZ1 := Lib.hid (hz0.on hb1)
  clear hk0 hz0 hb0 hb1
  go_wp2_with fail
  go_loopw [24] (fun _ wr => ∃ s : Nat, s ≤ r ∧ Blk wr w.heap.size 25 #[.int .i64 F, .int .i64 x.emitter, .int .i64 x.kind, .int .i64 s, .int .i64 x.asset, .int .i64 x.gain, .int .i64 x.pan, .int .i64 x.prio, .int .i64 x.len] ∧ Blk wr (w.heap.size + 1) 23 #[.int .i64 0, .int .i64 0, .int .i64 0, .int .i64 0] ∧ Below w.heap.size w wr)
    (fun _ wr => r - (match wr.cell? ⟨w.heap.size, 3, none⟩ with | some v => (intOf v).toNat | none => 0))
  case atStart => exact ⟨0, Nat.zero_le _, HK1.out, HZ1.out, hbw1⟩
  case round =>
    clear HK1 HZ1 hbw1
    obtain ⟨s, hsr, hk, hz, hbr⟩ := hrel
    obtain ⟨e0, e1, e2, e3, e4, e5, e6, e7, e8⟩ := hk.ev
    have ef := hk.frozen 3
    have HK := Lib.hid hk
    have HZ := Lib.hid hz
    have hl1 := hk.lt
    have hl2 := hz.lt
    have q1 : wr.cell? ⟨gp, 1, none⟩ = some (.slice A n c) := (hbr.cell (p := ⟨gp, 1, none⟩) hpl).trans p1
    have q0 : wr.cell? ⟨gp, 0, none⟩ = some (.int .i64 F) := (hbr.cell (p := ⟨gp, 0, none⟩) hpl).trans p0
    have hbs := hbr.size
    clear hk hz
    by_cases hlt : s < r
    · have hfs := HFU.out s hlt
      have HFS := Lib.hid hfs
      clear hfs
      go_wp2
      go_region_held3 (fun w' => w'.cell? ⟨gp, 1, none⟩ = some (.slice A n c) ∧ w'.cell? ⟨w.heap.size, 0, none⟩ = some (.int .i64 F) ∧ w'.cell? ⟨w.heap.size, 1, none⟩ = some (.int .i64 x.emitter) ∧ w'.cell? ⟨w.heap.size, 2, none⟩ = some (.int .i64 x.kind) ∧ w'.cell? ⟨w.heap.size, 3, none⟩ = some (.int .i64 s))
        (first | go_keep | (go_split_ands; refine ⟨?_, ?_, ?_, ?_, ?_⟩ <;> (rw [hb4.cell (by simp; omega)]; assumption)))
        (first
          | (go_at_call 30; refine (has_at A n c L (x.at_ F s).key _ HLN.out (by omega) (by exact ((HA.out.below hbr).rd.drew)) HS.out).mono ?_; rintro e w4 ⟨rfl, hb4⟩))
      have hb5 : Below w.heap.size w w4 := hbr.drew.trans (hb4.mono hbs)
      have hk5 : Blk w4 w.heap.size 25 #[.int .i64 F, .int .i64 x.emitter, .int .i64 x.kind, .int .i64 s, .int .i64 x.asset, .int .i64 x.gain, .int .i64 x.pan, .int .i64 x.prio, .int .i64 x.len] := HK.out.drew.on hb4
      have hz5 : Blk w4 (w.heap.size + 1) 23 #[.int .i64 0, .int .i64 0, .int .i64 0, .int .i64 0] := HZ.out.drew.on hb4
      have g3 := hk5.cell 3
      simp only [List.getElem?_toArray, List.getElem?_cons_succ, List.getElem?_cons_zero] at g3
      have gf := hk5.frozen 3
      have HK5 := Lib.hid hk5
      have HZ5 := Lib.hid hz5
      clear hk5 hz5
      rw [HFS.out]
      go_wp2
      go_roundw
      case rel =>
        refine ⟨s + 1, by omega, ?_, HZ5.out.farG (by omega) _ _, bSetG hb5 (Nat.le_refl _) _ _⟩
        have h := HK5.out.set 3 (.int .i64 ((s : Int) + 1))
        exact h
      case measure =>
        simp [go_sem, g3, e3, intOf]
        exact Nat.sub_lt_sub_left hlt (Nat.lt_succ_self s)
    · obtain rfl : s = r := by omega
      have HFS := Lib.hid HFR.out
      go_wp2
      go_region_held3 (fun w' => w'.cell? ⟨gp, 1, none⟩ = some (.slice A n c) ∧ w'.cell? ⟨w.heap.size, 0, none⟩ = some (.int .i64 F) ∧ w'.cell? ⟨w.heap.size, 1, none⟩ = some (.int .i64 x.emitter) ∧ w'.cell? ⟨w.heap.size, 2, none⟩ = some (.int .i64 x.kind) ∧ w'.cell? ⟨w.heap.size, 3, none⟩ = some (.int .i64 s))
        (first | go_keep | (go_split_ands; refine ⟨?_, ?_, ?_, ?_, ?_⟩ <;> (rw [hb4.cell (by simp; omega)]; assumption)))
        (first
          | (go_at_call 30; refine (has_at A n c L (x.at_ F s).key _ HLN.out (by omega) (by exact ((HA.out.below hbr).rd.drew)) HS.out).mono ?_; rintro e w4 ⟨rfl, hb4⟩))
      have hb5 : Below w.heap.size w w4 := hbr.drew.trans (hb4.mono hbs)
      have hk5 : Blk w4 w.heap.size 25 #[.int .i64 F, .int .i64 x.emitter, .int .i64 x.kind, .int .i64 s, .int .i64 x.asset, .int .i64 x.gain, .int .i64 x.pan, .int .i64 x.prio, .int .i64 x.len] := HK.out.drew.on hb4
      have hz5 : Blk w4 (w.heap.size + 1) 23 #[.int .i64 0, .int .i64 0, .int .i64 0, .int .i64 0] := HZ.out.drew.on hb4
      obtain ⟨g0, g1, g2, g3, g4, g5, g6, g7, g8⟩ := hk5.ev
      have q2 : w4.cell? ⟨gp, 1, none⟩ = some (.slice A n c) := (hb5.cell (p := ⟨gp, 1, none⟩) hpl).trans p1
      have hl3 := hk5.lt
      have HZ5 := Lib.hid hz5
      have h4s := hb5.size
      clear hk5 hz5 hb4 q1 q0 e0 e1 e2 e3 e4 e5 e6 e7 e8 ef HK HZ
      rw [HFS.out]
      by_cases h64 : 64 ≤ n
      · clear hful
        obtain ⟨t0, t1, t2, t3⟩ := Blk.key (HZ5).out
        have tf0 := (HZ5).out.frozen 0
        have tf1 := (HZ5).out.frozen 1
        have tf2 := (HZ5).out.frozen 2
        have tf3 := (HZ5).out.frozen 3
        have tl := (HZ5).out.lt
        go_wp2
        refine bodyPost_ret (v := .tuple #[.agg #[.int .i64 0, .int .i64 0, .int .i64 0, .int .i64 0], .int .i64 8]) (by simp [results, Try.results10, go_sem, t0, t1, t2, t3]) rfl ⟨rfl, ?_⟩
        exact bSetG (bSetG (bSetG (bSetG (hb5) (by omega) _ _) (by omega) _ _) (by omega) _ _) (by omega) _ _
      · have h15 : 15 < s := by omega
        clear hful
        obtain ⟨t0, t1, t2, t3⟩ := Blk.key (HZ5).out
        have tf0 := (HZ5).out.frozen 0
        have tf1 := (HZ5).out.frozen 1
        have tf2 := (HZ5).out.frozen 2
        have tf3 := (HZ5).out.frozen 3
        have tl := (HZ5).out.lt
        go_wp2
        refine bodyPost_ret (v := .tuple #[.agg #[.int .i64 0, .int .i64 0, .int .i64 0, .int .i64 0], .int .i64 8]) (by simp [results, Try.results10, go_sem, t0, t1, t2, t3]) rfl ⟨rfl, ?_⟩
        exact bSetG (bSetG (bSetG (bSetG (hb5) (by omega) _ _) (by omega) _ _) (by omega) _ _) (by omega) _ _
end Go.Proofs.Ytdjfpdndaobohaa
