/-
  Page.Add, wherever the event goes.
-/
import Derived.Test.YtibeihcpehikoaaGreatNk7
namespace Go.Proofs.YtibeihcpehikoaaGreat
open Go.RowKit
set_option maxRecDepth 100000
set_option maxHeartbeats 4000000
section
theorem ins_any (A : Option Addr) (n c i : Nat) (L : List Ev) (x : Ev) (gv base : Nat) (w : World) (hb : base ≤ w.heap.size) (hA : OwnL w base 62 9 (.slice A n c) Ev.cells L) (hn : n ≤ 1000) (hc : n ≤ c) (hcm : c ≤ 9223372036854775807) (hi : i ≤ n)
  (hx : Blk w gv 62 #[.int .i64 x.frame, .int .i64 x.emitter, .int .i64 x.kind, .int .i64 x.ord, .int .i64 x.asset, .int .i64 x.gain, .int .i64 x.pan, .int .i64 x.prio, .int .i64 x.len]) (hne : (Value.slice A n c).ownBlock ≠ some gv) :
  Calls Tryz.prog 295 #[.slice A n c, .int .i64 i, .slice (some ⟨gv, 0, none⟩) 1 1] w fun e w' => ∃ g c', e = .returned (.slice (some ⟨g, 0, none⟩) (n + 1) c') ∧ OwnL w' base 62 9 (.slice (some ⟨g, 0, none⟩) (n + 1) c') Ev.cells (insL L i x) ∧ w.grownBy w' (Value.slice A n c).ownBlock ∧ ((Value.slice A n c).ownBlock = some g ∨ g = w.heap.size) := by
 have hln := hA.len
 rcases Nat.lt_or_ge i n with hlt | hge
 ·obtain ⟨g, rfl, -, -, -⟩ := hA.formA (by omega)
  rcases Nat.lt_or_ge n c with hr | hr
  ·refine (ins_room g n c i L x gv base w hA hlt hn hr hx (fun e => hne (by rw [e]; rfl))).mono ?_
   rintro e w' ⟨rfl, h1, h2⟩
   exact ⟨g, c, rfl, h1, h2, .inl rfl⟩
  ·obtain rfl : c = n := by omega
   refine (ins_grow g c i L x gv base w hb hA hlt hn hx).mono ?_
   rintro e w' ⟨c', rfl, h1, h2⟩
   exact ⟨w.heap.size, c', rfl, h1, ⟨h2.os, h2.tape, h2.output, h2.size, fun k hk _ => h2.block k hk⟩, .inr rfl⟩
 ·obtain rfl : i = n := by omega
  have := ins_end A i c L x gv base w hb hA hn hc hcm hx
  rw [show insL L i x = L ++ [x] from by rw [hln]; exact insL_end L x]
  exact this
set_option maxRecDepth 100000 in
theorem add_at (gp : Nat) (F : Int) (A : Option Addr) (n c : Nat) (L : List Ev) (x : Ev) (r : Nat) (base : Nat) (w : World) (hb : base ≤ w.heap.size) (hbp : base ≤ gp) (hP : Blk w gp 265 #[.int .i64 F, .slice A n c]) (hA : OwnL w base 62 9 (.slice A n c) Ev.cells L)
  (hn : n < 64) (hc : n ≤ c) (hcm : c ≤ 9223372036854775807) (hs : SortedE L) (hok : evOk (x.at_ F 0) = true) (hr : r ≤ 15) (hfull : ∀ s : Nat, s < r → foundK L (x.at_ F s).key = true) (hfree : foundK L (x.at_ F r).key = false) :
  Calls Tryz.prog 246 #[.pointer (some ⟨gp, 0, none⟩), x.val] w fun e w' => ∃ g c', e = .returned (.tuple #[(x.at_ F r).key.val, .int .i64 0]) ∧ Blk w' gp 265 #[.int .i64 F, .slice (some ⟨g, 0, none⟩) (n + 1) c'] ∧ OwnL w' base 62 9 (.slice (some ⟨g, 0, none⟩) (n + 1) c') Ev.cells (insL L (lbK L (x.at_ F r).key) (x.at_ F r)) ∧ Below base w w' ∧ (∀ k, k < w.heap.size → k ≠ gp → (Value.slice A n c).ownBlock ≠ some k → w'.heap[k]? = w.heap[k]?) ∧ ((Value.slice A n c).ownBlock = some g ∨ w.heap.size ≤ g) := by
 have p0 := hP.cell 0
 have p1 := hP.cell 1
 have pf1 := hP.frozen 1
 simp only [zA, zB, zC] at p0 p1
 have hpl := hP.lt
 have HP := zz hP
 have HA := zz hA
 have HS := zz hs
 have HOK := zz hok
 have HFU := zz hfull
 have HFR := zz hfree
 obtain ⟨q, hq⟩ : ∃ q, lbK L (x.at_ F r).key = q := ⟨_, rfl⟩
 have hqn : q ≤ n := by rw [← hq, hA.len]; exact lbK_le _ _
 rw [hq]
 have HEN := zz hq
 have HLN := zz hA.len
 clear hP hA hs hok hfull hfree hq
 unfold Ev.val
 go_enter Tryz.func246, Tryz.ntmps246
 go_wp2_with fail
 obtain ⟨w0, hw0⟩ : ∃ w0, w0 = (w.alloc (.cells #[.int .i64 F, .int .i64 x.emitter, .int .i64 x.kind, .int .i64 0, .int .i64 x.asset, .int .i64 x.gain, .int .i64 x.pan, .int .i64 x.prio, .int .i64 x.len] 62)).alloc (.cells #[.int .i64 0, .int .i64 0, .int .i64 0, .int .i64 0] 60) := ⟨_, rfl⟩
 have hb0 : Below w.heap.size w w0 := by rw [hw0]; exact bAlloc (bAlloc (Below.refl _ _) _) _
 have hk0 : Blk w0 w.heap.size 62 #[.int .i64 F, .int .i64 x.emitter, .int .i64 x.kind, .int .i64 0, .int .i64 x.asset, .int .i64 x.gain, .int .i64 x.pan, .int .i64 x.prio, .int .i64 x.len] := by rw [hw0]; exact (Blk.new _ _ _).alloc _
 have hz0 : Blk w0 (w.heap.size + 1) 60 #[.int .i64 0, .int .i64 0, .int .i64 0, .int .i64 0] := by
  rw [hw0]
  have := Blk.new (w.alloc (.cells #[.int .i64 F, .int .i64 x.emitter, .int .i64 x.kind, .int .i64 0, .int .i64 x.asset, .int .i64 x.gain, .int .i64 x.pan, .int .i64 x.prio, .int .i64 x.len] 62)) 60 #[.int .i64 0, .int .i64 0, .int .i64 0, .int .i64 0]
  simpa using this
 rw [← hw0]
 clear hw0
 refine (right_any (x.at_ F 0) _).mono ?_
 rintro e w1 ⟨rfl, hb1⟩
 rw [HOK.out]
 have hbw1 : Below w.heap.size w w1 := bTrans hb0 hb1
 have HK1 := zz (hk0.on hb1)
 have HZ1 := zz (hz0.on hb1)
 clear hk0 hz0 hb0 hb1
 go_wp2_with fail
 go_loopw [24] (fun _ wr => ∃ s : Nat, s ≤ r ∧ Blk wr w.heap.size 62 #[.int .i64 F, .int .i64 x.emitter, .int .i64 x.kind, .int .i64 s, .int .i64 x.asset, .int .i64 x.gain, .int .i64 x.pan, .int .i64 x.prio, .int .i64 x.len] ∧ Blk wr (w.heap.size + 1) 60 #[.int .i64 0, .int .i64 0, .int .i64 0, .int .i64 0] ∧ Below w.heap.size w wr)
  (fun _ wr => r - (match wr.cell? ⟨w.heap.size, 3, none⟩ with | some v => (intOf v).toNat | none => 0))
 case atStart => exact ⟨0, Nat.zero_le _, HK1.out, HZ1.out, hbw1⟩
 case round =>
  clear HK1 HZ1 hbw1
  obtain ⟨s, hsr, hk, hz, hbr⟩ := hrel
  obtain ⟨e0, e1, e2, e3, e4, e5, e6, e7, e8⟩ := hk.ev
  have ef := hk.frozen 3
  have HK := zz hk
  have HZ := zz hz
  have hl1 := hk.lt
  have hl2 := hz.lt
  have q1 : wr.cell? ⟨gp, 1, none⟩ = some (.slice A n c) := (hbr.cell (p := ⟨gp, 1, none⟩) hpl).trans p1
  have q0 : wr.cell? ⟨gp, 0, none⟩ = some (.int .i64 F) := (hbr.cell (p := ⟨gp, 0, none⟩) hpl).trans p0
  have hbs := hbr.size
  clear hk hz
  by_cases hlt : s < r
  ·have hfs := HFU.out s hlt
   have HFS := zz hfs
   clear hfs
   go_wp2
   go_region_held3 (fun w' => w'.cell? ⟨gp, 1, none⟩ = some (.slice A n c) ∧ w'.cell? ⟨w.heap.size, 0, none⟩ = some (.int .i64 F) ∧ w'.cell? ⟨w.heap.size, 1, none⟩ = some (.int .i64 x.emitter) ∧ w'.cell? ⟨w.heap.size, 2, none⟩ = some (.int .i64 x.kind) ∧ w'.cell? ⟨w.heap.size, 3, none⟩ = some (.int .i64 s))
    (first | go_keep | (go_split_ands; refine ⟨?_, ?_, ?_, ?_, ?_⟩ <;> (rw [hb4.cell (by simp; omega)]; assumption)))
    (first
     | (go_at_call 292; refine (has_at A n c L (x.at_ F s).key _ HLN.out (by omega) (by exact ((HA.out.below hbr).rd.drew)) HS.out).mono ?_; rintro e w4 ⟨rfl, hb4⟩))
   have hb5 : Below w.heap.size w w4 := hbr.drew.trans (hb4.mono hbs)
   have hk5 : Blk w4 w.heap.size 62 #[.int .i64 F, .int .i64 x.emitter, .int .i64 x.kind, .int .i64 s, .int .i64 x.asset, .int .i64 x.gain, .int .i64 x.pan, .int .i64 x.prio, .int .i64 x.len] := HK.out.drew.on hb4
   have hz5 : Blk w4 (w.heap.size + 1) 60 #[.int .i64 0, .int .i64 0, .int .i64 0, .int .i64 0] := HZ.out.drew.on hb4
   have g3 := hk5.cell 3
   simp only [zA, zC, zB] at g3
   have gf := hk5.frozen 3
   have HK5 := zz hk5
   have HZ5 := zz hz5
   clear hk5 hz5
   rw [HFS.out]
   go_wp2
   go_roundw
   case rel =>
    refine ⟨s + 1, by omega, ?_, HZ5.out.farG (by omega) _ _, bSetG hb5 (zL _) _ _⟩
    have h := HK5.out.set 3 (.int .i64 ((s : Int) + 1))
    exact h
   case measure =>
    simp [go_sem, g3, e3, intOf]
    exact Nat.sub_lt_sub_left hlt (Nat.lt_succ_self s)
  ·obtain rfl : s = r := by omega
   have HFS := zz HFR.out
   go_wp2
   go_region_held3 (fun w' => w'.cell? ⟨gp, 1, none⟩ = some (.slice A n c) ∧ w'.cell? ⟨w.heap.size, 0, none⟩ = some (.int .i64 F) ∧ w'.cell? ⟨w.heap.size, 1, none⟩ = some (.int .i64 x.emitter) ∧ w'.cell? ⟨w.heap.size, 2, none⟩ = some (.int .i64 x.kind) ∧ w'.cell? ⟨w.heap.size, 3, none⟩ = some (.int .i64 s))
    (first | go_keep | (go_split_ands; refine ⟨?_, ?_, ?_, ?_, ?_⟩ <;> (rw [hb4.cell (by simp; omega)]; assumption)))
    (first
     | (go_at_call 292; refine (has_at A n c L (x.at_ F s).key _ HLN.out (by omega) (by exact ((HA.out.below hbr).rd.drew)) HS.out).mono ?_; rintro e w4 ⟨rfl, hb4⟩))
   have hb5 : Below w.heap.size w w4 := hbr.drew.trans (hb4.mono hbs)
   have hk5 : Blk w4 w.heap.size 62 #[.int .i64 F, .int .i64 x.emitter, .int .i64 x.kind, .int .i64 s, .int .i64 x.asset, .int .i64 x.gain, .int .i64 x.pan, .int .i64 x.prio, .int .i64 x.len] := HK.out.drew.on hb4
   have hz5 : Blk w4 (w.heap.size + 1) 60 #[.int .i64 0, .int .i64 0, .int .i64 0, .int .i64 0] := HZ.out.drew.on hb4
   obtain ⟨g0, g1, g2, g3, g4, g5, g6, g7, g8⟩ := hk5.ev
   have q2 : w4.cell? ⟨gp, 1, none⟩ = some (.slice A n c) := (hb5.cell (p := ⟨gp, 1, none⟩) hpl).trans p1
   have hl3 := hk5.lt
   have hl4 := hz5.lt
   have HK5 := zz hk5
   have HZ5 := zz hz5
   have HB5 := zz hb5
   have h4s := hb5.size
   clear hk5 hz5 hb4 q1 q0 e0 e1 e2 e3 e4 e5 e6 e7 e8 ef HK HZ
   rw [HFS.out]
   go_wp2
   go_region_held3 (fun w' => w'.cell? ⟨gp, 1, none⟩ = some (.slice A n c) ∧ w'.cell? ⟨w.heap.size, 0, none⟩ = some (.int .i64 F) ∧ w'.cell? ⟨w.heap.size, 1, none⟩ = some (.int .i64 x.emitter) ∧ w'.cell? ⟨w.heap.size, 2, none⟩ = some (.int .i64 x.kind) ∧ w'.cell? ⟨w.heap.size, 3, none⟩ = some (.int .i64 s) ∧ w'.cell? ⟨w.heap.size, 4, none⟩ = some (.int .i64 x.asset) ∧ w'.cell? ⟨w.heap.size, 5, none⟩ = some (.int .i64 x.gain) ∧ w'.cell? ⟨w.heap.size, 6, none⟩ = some (.int .i64 x.pan) ∧ w'.cell? ⟨w.heap.size, 7, none⟩ = some (.int .i64 x.prio) ∧ w'.cell? ⟨w.heap.size, 8, none⟩ = some (.int .i64 x.len))
    (first | go_keep | (go_split_ands; refine ⟨?_, ?_, ?_, ?_, ?_, ?_, ?_, ?_, ?_, ?_⟩ <;> (rw [hb6.cell (by simp; omega)]; assumption)))
    (first
     | (go_at_call 293; refine (bsE_at A n c L (x.at_ F s) _ HLN.out (by omega) (by exact ((HA.out.below HB5.out).rd.drew)) HS.out).mono ?_; rintro e w6 ⟨rfl, hb6⟩))
   rw [HEN.out]
   have h4s' : w4.drew.heap.size = w4.heap.size := rfl
   have hb7 : Below w.heap.size w w6 := HB5.out.drew.trans (hb6.mono h4s)
   have hk7 : Blk w6 w.heap.size 62 #[.int .i64 F, .int .i64 x.emitter, .int .i64 x.kind, .int .i64 s, .int .i64 x.asset, .int .i64 x.gain, .int .i64 x.pan, .int .i64 x.prio, .int .i64 x.len] := HK5.out.drew.on hb6
   have hz7 : Blk w6 (w.heap.size + 1) 60 #[.int .i64 0, .int .i64 0, .int .i64 0, .int .i64 0] := HZ5.out.drew.on hb6
   have hp7 : Blk w6 gp 265 #[.int .i64 F, .slice A n c] := HP.out.on hb7
   have ha7 : OwnL w6 base 62 9 (.slice A n c) Ev.cells L := HA.out.below hb7
   obtain ⟨d0, d1, d2, d3, d4, d5, d6, d7, d8⟩ := hk7.ev
   have r1 := hp7.cell 1
   have rf := hp7.frozen 1
   simp only [zA, zC, zB] at r1
   have m1 : (Value.slice A n c).ownBlock ≠ some gp := hp7.apart ha7 (by decide)
   have m2 : (Value.slice A n c).ownBlock ≠ some w.heap.size := fun e => by have := HA.out.block_lt _ e; omega
   have m3 : (Value.slice A n c).ownBlock ≠ some (w.heap.size + 1) := fun e => by have := HA.out.block_lt _ e; omega
   have l1 := hk7.lt
   have l2 := hz7.lt
   have l3 := hp7.lt
   have hbase6 : base ≤ w6.heap.size := by omega
   have HK7 := zz hk7
   have HZ7 := zz hz7
   have HP7 := zz hp7
   have HA7 := zz ha7
   have HB7 := zz hb7
   clear hk7 hz7 hp7 ha7 hb7 hb6 g0 g1 g2 g3 g4 g5 g6 g7 g8 q2 h4s'
   go_wp2
   go_region_law (first
     | (go_simp; go_at_call 295; refine (ins_any A n c q L (x.at_ F s) w6.heap.size base _ (by simp; omega) (by exact (HA7.out.alloc _).drew) (by omega) hc hcm hqn (by exact (Blk.new w6 _ _).drew) (fun e => absurd (HA7.out.block_lt _ e) (Nat.lt_irrefl _))).mono ?_; rintro e w8 ⟨g, c', rfl, hown, hgr, hat⟩; have hfz : w8.frozen? ⟨gp, 1, none⟩ = false := ((HP7.out.alloc _).drew.grown hgr m1).frozen 1; have hcz : w8.cell? ⟨gp, 1, none⟩ = some (.slice A n c) := ((HP7.out.alloc _).drew.grown hgr m1).cell 1))
   all_goals
    have hp9 : Blk w8 gp 265 #[.int .i64 F, .slice A n c] := (HP7.out.alloc _).drew.grown hgr m1
    have hb9 : Below base w6 w8 := ((Below.refl base w6).alloc hbase6 _).drew.trans ⟨hgr.os, hgr.tape, hgr.output, hgr.size, fun k hk => hgr.block k (by simp; omega) (fun e => by have := HA7.out.base_le k e.symm; omega)⟩
    have hb10 : Below base w w8 := (HB7.out.mono hb).trans hb9
    have hk9 : Blk w8 w.heap.size 62 #[.int .i64 F, .int .i64 x.emitter, .int .i64 x.kind, .int .i64 s, .int .i64 x.asset, .int .i64 x.gain, .int .i64 x.pan, .int .i64 x.prio, .int .i64 x.len] := (HK7.out.alloc _).drew.grown hgr m2
    have hz9 : Blk w8 (w.heap.size + 1) 60 #[.int .i64 0, .int .i64 0, .int .i64 0, .int .i64 0] := (HZ7.out.alloc _).drew.grown hgr m3
    have hfar : ∀ k, k < w.heap.size → k ≠ gp → (Value.slice A n c).ownBlock ≠ some k → w8.heap[k]? = w.heap[k]? := fun k h1 h2 h3 => by
     have e1 : w8.heap[k]? = ((w6.alloc (.cells #[.int .i64 F, .int .i64 x.emitter, .int .i64 x.kind, .int .i64 s, .int .i64 x.asset, .int .i64 x.gain, .int .i64 x.pan, .int .i64 x.prio, .int .i64 x.len] 62)).drew).heap[k]? := hgr.block k (by simp; omega) (fun e => h3 e.symm)
     exact e1.trans ((Below.heap_alloc w6 _ k (by omega)).trans (HB7.out.block k h1))
    have hgat : (Value.slice A n c).ownBlock = some g ∨ w.heap.size ≤ g := by
     rcases hat with h | h
     ·exact Or.inl h
     ·right; rw [h]; simp; omega
    have HFA := zz hfar
    have HGA := zz hgat
    clear hfar hgat
    have n1 := hp9.apart hown (by decide)
    have n2 : (Value.slice (some ⟨g, 0, none⟩) (n + 1) c').ownBlock ≠ some (w.heap.size + 1) := hz9.apart hown (by decide)
    have HP9 := zz hp9
    have HO9 := zz hown
    have HB10 := zz hb10
    obtain ⟨b0, b1, b2, b3, b4, b5, b6, b7, b8⟩ := hk9.ev
    have t0 := hz9.cell 0
    have t1 := hz9.cell 1
    have t2 := hz9.cell 2
    have t3 := hz9.cell 3
    have tf0 := hz9.frozen 0
    have tf1 := hz9.frozen 1
    have tf2 := hz9.frozen 2
    have tf3 := hz9.frozen 3
    simp only [zA, zC, zB] at t0 t1 t2 t3
    clear hp9 hown hb10 hb9 hat hk9 hz9
    go_wp2
    refine bodyPost_ret (v := .tuple #[(x.at_ F s).key.val, .int .i64 0]) ?_ rfl ⟨g, c', rfl, ?_, ?_, ?_, ?_, HGA.out⟩
    ·have c0 : (w8.setCell ⟨gp, 1, none⟩ (.slice (some ⟨g, 0, none⟩) (n + 1) c')).cell? ⟨w.heap.size + 1, 0, none⟩ = some (.int .i64 0) := by simp [go_sem, t0]
     have c1 : (w8.setCell ⟨gp, 1, none⟩ (.slice (some ⟨g, 0, none⟩) (n + 1) c')).cell? ⟨w.heap.size + 1, 1, none⟩ = some (.int .i64 0) := by simp [go_sem, t1]
     have c2 : (w8.setCell ⟨gp, 1, none⟩ (.slice (some ⟨g, 0, none⟩) (n + 1) c')).cell? ⟨w.heap.size + 1, 2, none⟩ = some (.int .i64 0) := by simp [go_sem, t2]
     have c3 : (w8.setCell ⟨gp, 1, none⟩ (.slice (some ⟨g, 0, none⟩) (n + 1) c')).cell? ⟨w.heap.size + 1, 3, none⟩ = some (.int .i64 0) := by simp [go_sem, t3]
     simp [results, Tryz.results246, go_sem, Ev.at_, Ev.key, Key4.val, c0, c1, c2, c3]
    ·have h := HP9.out.set 1 (.slice (some ⟨g, 0, none⟩) (n + 1) c')
     exact (((h.farG (by omega) _ _).farG (by omega) _ _).farG (by omega) _ _).farG (by omega) _ _
    ·exact ((((HO9.out.farG n1 _ _).farG n2 _ _).farG n2 _ _).farG n2 _ _).farG n2 _ _
    ·exact ((((HB10.out.setCell (p := ⟨gp, 1, none⟩) hbp _).setCell (p := ⟨w.heap.size + 1, 0, none⟩) (by simp; omega) _).setCell (p := ⟨w.heap.size + 1, 1, none⟩) (by simp; omega) _).setCell (p := ⟨w.heap.size + 1, 2, none⟩) (by simp; omega) _).setCell (p := ⟨w.heap.size + 1, 3, none⟩) (by simp; omega) _
    ·intro k h1 h2 h3
     have f1 := Below.heap_setCell w8 ⟨gp, 1, none⟩ (.slice (some ⟨g, 0, none⟩) (n + 1) c') k h2
     have f2 := fun (W : World) (o : Nat) (u : Value) => Below.heap_setCell W ⟨w.heap.size + 1, o, none⟩ u k (by simp; omega)
     exact (f2 _ _ _).trans ((f2 _ _ _).trans ((f2 _ _ _).trans ((f2 _ _ _).trans (f1.trans (HFA.out k h1 h2 h3)))))
theorem page_add (gp : Nat) (F : Int) (A : Option Addr) (n c : Nat) (L : List Ev) (x : Ev) (base : Nat) (w : World) (hb : base ≤ w.heap.size) (hbp : base ≤ gp) (hP : Blk w gp 265 #[.int .i64 F, .slice A n c]) (hA : OwnL w base 62 9 (.slice A n c) Ev.cells L)
  (hn : n < 64) (hc : n ≤ c) (hcm : c ≤ 9223372036854775807) (hL : PageOk F L) (hok : evOk (x.at_ F 0) = true) (hr : cntE L x.emitter x.kind ≤ 15) :
  Calls Tryz.prog 246 #[.pointer (some ⟨gp, 0, none⟩), x.val] w fun e w' => ∃ g c', e = .returned (.tuple #[(numE F L x).key.val, .int .i64 0]) ∧ Blk w' gp 265 #[.int .i64 F, .slice (some ⟨g, 0, none⟩) (n + 1) c'] ∧ OwnL w' base 62 9 (.slice (some ⟨g, 0, none⟩) (n + 1) c') Ev.cells (addE F L x) ∧ Below base w w' ∧ (∀ k, k < w.heap.size → k ≠ gp → (Value.slice A n c).ownBlock ≠ some k → w'.heap[k]? = w.heap[k]?) ∧ ((Value.slice A n c).ownBlock = some g ∨ w.heap.size ≤ g) := by
 have hfree : foundK L (x.at_ F (cntE L x.emitter x.kind : Nat)).key = false := hL.free x
 exact add_at gp F A n c L x (cntE L x.emitter x.kind) base w hb hbp hP hA hn hc hcm hL.sorted hok hr (fun s hs => hL.full x s hs) hfree
end
end Go.Proofs.YtibeihcpehikoaaGreat
