/-
  The walks of the series' through, Rounds, Open.
-/
import Derived.Test.YtfcllbhkimjhkaaDoorSerW
import Derived.Deep.RegionHeld3
import Derived.StillTactics
namespace Go.Proofs.YtfcllbhkimjhkaaDoor.Ser
open Go.RowKit

theorem Tryd.infoRound : (Tryd.prog.info? 27).map (fun i => (i.zero, i.size, i.bytes)) = some (some (.agg #[.int .i64 0, .int .i64 0, .int .i64 0, .int .i64 0]), 4, 32) := by kernel_rfl

set_option maxRecDepth 100000 in
set_option maxHeartbeats 1600000 in
theorem through_any (A : Option Addr) (c : Nat) (l : List Ev) (w : World) (hn : l.length ≤ 1000000) (hr : Rd w w.heap.size A (l.flatMap Ev.cells)) :
    Calls Tryd.prog 21 #[.slice A l.length c] w fun e w' => ∃ A' cp, e = .returned (.tuple #[.slice A' (thr l).out.length cp, .agg #[.int .i64 (thr l).a, .int .i64 (thr l).b]]) ∧
      OwnL w' w.heap.size 27 4 (.slice A' (thr l).out.length cp) Rnd.cells (thr l).out ∧ Below w.heap.size w w' := by
  have HR := Lib.hid hr
  have HT := Lib.hid (thr_bd l)
  clear hr
  obtain ⟨i0, hi0, hz0, hz1, hz2⟩ := info_parts Tryd.infoRound
  go_enter Tryd.func21, Tryd.ntmps21
  go_wp2
  go_loopw [4, 10] (fun v i wr => ∃ k : Nat, k ≤ l.length ∧ i = .int .i64 k ∧ ∃ A' cp, v = .slice A' (thr (l.take k)).out.length cp ∧ OwnL wr w.heap.size 27 4 (.slice A' (thr (l.take k)).out.length cp) Rnd.cells (thr (l.take k)).out ∧
    Blk wr w.heap.size 25 #[.int .i64 0, .int .i64 0] ∧ Blk wr (w.heap.size + 1) 25 #[.int .i64 (thr (l.take k)).a, .int .i64 (thr (l.take k)).b] ∧ Below w.heap.size w wr) (fun _ i _ => l.length - (intOf i).toNat)
  case atStart =>
    refine ⟨0, Nat.zero_le _, rfl, none, 0, by simp [thr], by simpa [thr] using OwnL.nil, ?_, ?_, (by repeat (first | exact Below.refl _ _ | (with_reducible assumption) | apply bAlloc | apply below_drewN | apply Below.drew))⟩
    · exact (Blk.new _ _ _).alloc _
    · have := Blk.new (w.alloc (.cells #[.int .i64 0, .int .i64 0] 25)) 25 #[.int .i64 0, .int .i64 0]
      simpa [thr] using this
  case round =>
    obtain ⟨k, hk, rfl, A', cp, rfl, hown, hres, hkl, hb⟩ := hrel
    obtain ⟨t1, t2, t3, t4, t5, t6⟩ := HT.out k hk
    clear t6
    by_cases hlt : k < l.length
    · obtain ⟨b, off, rfl, hB, h0, h1, h2, h3, h4, h5, h6, h7, h8⟩ := (HR.out.below hb (Nat.le_refl _)).ev hlt
      have k0 := hkl.cell 0
      have k1 := hkl.cell 1
      have f0 := hkl.frozen 0
      have f1 := hkl.frozen 1
      simp only [List.getElem?_toArray, List.getElem?_cons_zero, List.getElem?_cons_succ] at k0 k1
      have hsz : w.heap.size + 1 < wr.heap.size := hkl.lt
      have hst := thr_take l k hlt
      have HS := Lib.hid hst
      have HO := Lib.hid hown
      have HRes := Lib.hid hres
      have HKl := Lib.hid hkl
      clear hst hown hres hkl
      by_cases h7 : (l[k].kind == 7) = true
      · go_wp2
        generalize hW1 : wr.alloc _ = W1
        have e0 : W1.cell? ⟨wr.heap.size, 0, none⟩ = some (.int .i64 l[k].frame) := by rw [← hW1]; simp [go_sem]
        have hs1 : W1.heap.size = wr.heap.size + 1 := by rw [← hW1]; simp
        have HO1 : Hid (OwnL W1 w.heap.size 27 4 (.slice A' (thr (l.take k)).out.length cp) Rnd.cells (thr (l.take k)).out) := by rw [← hW1]; exact HO.out.alloc _
        have HR1 : Hid (Blk W1 w.heap.size 25 #[.int .i64 0, .int .i64 0]) := by rw [← hW1]; exact HRes.out.alloc _
        have HK1 : Hid (Blk W1 (w.heap.size + 1) 25 #[.int .i64 (thr (l.take k)).a, .int .i64 (thr (l.take k)).b]) := by rw [← hW1]; exact HKl.out.alloc _
        have hb1 : Below w.heap.size w W1 := by rw [← hW1]; exact bAlloc hb _
        have q0 := HK1.out.cell 0
        have q1 := HK1.out.cell 1
        simp only [List.getElem?_toArray, List.getElem?_cons_zero, List.getElem?_cons_succ] at q0 q1
        have HS1 := Lib.hid hs1
        have hs2 : wr.heap.size < W1.heap.size := by omega
        have hs3 : w.heap.size + 1 < W1.heap.size := by omega
        have hab1 : (Value.slice A' (thr (l.take k)).out.length cp).ownBlock ≠ some (w.heap.size + 1) := HK1.out.apart HO1.out (by decide)
        have hab2 : (Value.slice A' (thr (l.take k)).out.length cp).ownBlock ≠ some wr.heap.size := fun e => by have := HO.out.block_lt _ e; omega
        clear hs1 hW1 k0 k1 f0 f1 h0 h1 h2 h3 h4 h5 h6 h8
        have HOr : Hid (W1.ownsRow w.heap.size 27 4 (.slice A' (thr (l.take k)).out.length cp) (thr (l.take k)).out.length ((thr (l.take k)).out.flatMap Rnd.cells)) := HO1.out
        generalize hta : (thr (l.take k)).a = ta at *
        generalize htb : (thr (l.take k)).b = tb at *
        generalize hto : (thr (l.take k)).out = to at *
        have HTA := Lib.hid hta
        have HTB := Lib.hid htb
        have HTO := Lib.hid hto
        clear hta htb hto
        go_region_held3 (fun w' => w'.cell? ⟨wr.heap.size, 0, none⟩ = some (.int .i64 l[k].frame) ∧ w'.cell? ⟨w.heap.size + 1, 0, none⟩ = some (.int .i64 ta) ∧ w'.cell? ⟨w.heap.size + 1, 1, none⟩ = some (.int .i64 tb))
          (first
            | go_keep
            | (go_split_ands
               refine ⟨?_, ?_, ?_⟩
               · (rw [hgrow.cell_far _ (by simp; omega) (Ne.symm hab2)]; assumption)
               · (rw [hgrow.cell_far _ (by simp; omega) (Ne.symm hab1)]; assumption)
               · (rw [hgrow.cell_far _ (by simp; omega) (Ne.symm hab1)]; assumption)))
          (first
            | (go_at_call 25; refine (winner_any _ _ _).mono ?_; rintro e w4 ⟨rfl, rfl⟩)
            | (refine step_append_lies _ (by rfl) _ _ _ (by rfl) w.heap.size 27 i0 _ 4 32 Tryd.underlying22 hi0 hz0 hz1 hz2 rfl (by omega) (.slice A' to.length cp) to.length (to.flatMap Rnd.cells) (by rfl) (((HOr.out.alloc _).alloc _).drew)
                ⟨W1.heap.size + 1, 0, none⟩ 1 1 [.int .i64 l[k].frame, .int .i64 ta, .int .i64 tb, .int .i64 (winOf ta tb)] (by rfl) (by rfl) (World.news_of_block (cs := #[.int .i64 l[k].frame, .int .i64 ta, .int .i64 tb, .int .i64 (winOf ta tb)]) (t := 27) (fr := (0, 0)) (heap_new_at (W1.alloc (.cells #[.int .i64 ta, .int .i64 tb] 25)) _ _ (by simp))) (by simp [Value.oneCell'])
                (by omega) (by simp [maxLen]; omega) (by omega) (by simp; omega) (W1.heap.size + 2) (by simp) ?_; intro gg cap w1 hown1 hgrow hat hlt1))
        have hkb : Hid (Blk w1 (w.heap.size + 1) 25 #[.int .i64 ta, .int .i64 tb]) := ((HK1.out.alloc _).alloc _).drew.grown hgrow hab1
        have hrb : Hid (Blk w1 w.heap.size 25 #[.int .i64 0, .int .i64 0]) := ((HR1.out.alloc _).alloc _).drew.grown hgrow (HR1.out.apart HO1.out (by decide))
        have hb2 : Below w.heap.size w w1 := Below.grown ((hb1.alloc hb1.size _).alloc (by simp; have := hb1.size; omega) _).drew hgrow (by simp; have := hb1.size; omega) HO1.out.base_le
        have p0 := hkb.out.cell 0
        have p1 := hkb.out.cell 1
        have z0 := hkb.out.frozen 0
        have z1 := hkb.out.frozen 1
        simp only [List.getElem?_toArray, List.getElem?_cons_zero, List.getElem?_cons_succ] at p0 p1
        have HOW := Lib.hid hown1
        clear hown1 hgrow hat
        go_wp2
        go_roundw
        case rel =>
          have hst : thr (l.take (k + 1)) = ⟨to ++ [⟨l[k].frame, ta, tb, winOf ta tb⟩], 0, 0⟩ := by
            rw [HS.out, stepT, if_pos (by simpa using h7), HTA.out, HTB.out, HTO.out]
          have hne : gg ≠ w.heap.size + 1 := by
            have h := hkb.out.apart (α := Rnd) (base := w.heap.size) (E' := 27) (m := 4) (v := .slice (some ⟨gg, 0, none⟩) (to.length + 1) cap) (f := Rnd.cells) (l := to ++ [⟨l[k].frame, ta, tb, winOf ta tb⟩]) (by unfold OwnL; simpa [Rnd.cells] using HOW.out) (by decide)
            simpa [Value.ownBlock] using h
          refine ⟨k + 1, by omega, by go_num, some ⟨gg, 0, none⟩, cap, by rw [hst]; simp, ?_, ?_, ?_, ?_⟩
          · rw [hst]
            have h : OwnL w1 w.heap.size 27 4 (.slice (some ⟨gg, 0, none⟩) (to.length + 1) cap) Rnd.cells (to ++ [⟨l[k].frame, ta, tb, winOf ta tb⟩]) := by unfold OwnL; simpa [Rnd.cells] using HOW.out
            have h2 := (h.farG (g := w.heap.size + 1) (by simpa [Value.ownBlock] using hne) 0 (.int .i64 0)).farG (g := w.heap.size + 1) (by simpa [Value.ownBlock] using hne) 1 (.int .i64 0)
            simpa using h2
          · exact (hrb.out.farG (by omega) _ _).farG (by omega) _ _
          · rw [hst]; exact (hkb.out.set 0 _).set 1 _
          · exact bSetG (bSetG hb2 (by omega) _ _) (by omega) _ _
        case measure => simp [intOf]; omega
      · have h7' : (l[k].kind == 7) = false := by simpa using h7
        have hs7 : thr (l.take (k + 1)) = ⟨(thr (l.take k)).out, (thr (l.take k)).a + (if hit l[k] 0 then 1 else 0), (thr (l.take k)).b + (if hit l[k] 1 then 1 else 0)⟩ := by
          rw [HS.out, stepT, if_neg (by simpa using h7)]
        have HS7 := Lib.hid hs7
        clear h7 hs7
        obtain ⟨em, hem⟩ : ∃ em, em = l[k].emitter := ⟨_, rfl⟩
        rw [← hem] at h1
        have HEM := Lib.hid hem
        have hrl := HRes.out.lt
        have hcases : (l[k].kind == 5) = false ∨ (l[k].kind == 5) = true ∧ (em = 1 ∨ em = 2 ∨ ((em == 1) = false ∧ (em == 2) = false)) := by
          cases (l[k].kind == 5)
          · exact .inl rfl
          · right
            refine ⟨rfl, ?_⟩
            by_cases e1 : em = 1
            · exact .inl e1
            · by_cases e2 : em = 2
              · exact .inr (.inl e2)
              · exact .inr (.inr ⟨by simpa using e1, by simpa using e2⟩)
        clear hem
        rcases hcases with k5 | ⟨k5, rfl | rfl | ⟨m1, m2⟩⟩
        · have hh : hit l[k] 0 = false ∧ hit l[k] 1 = false := by simp [hit, k5]
          have HH := Lib.hid hh
          clear hh
          go_wp2
          go_roundw
          case rel =>
            have hst := HS7.out
            rw [HH.out.1, HH.out.2] at hst
            simp only [Bool.false_eq_true, if_false, Int.add_zero] at hst
            refine ⟨k + 1, by omega, by go_num, A', cp, by rw [hst], ?_, ?_, ?_, bAlloc hb _⟩
            · rw [hst]; exact HO.out.alloc _
            · exact HRes.out.alloc _
            · rw [hst]; exact HKl.out.alloc _
          case measure => simp [intOf]; omega
        · have hh : hit l[k] 0 = false ∧ hit l[k] 1 = true := by simp [hit, k5, ← HEM.out]
          have HH := Lib.hid hh
          clear hh
          go_wp2
          go_roundw
          case rel =>
            have hst := HS7.out
            rw [HH.out.1, HH.out.2] at hst
            simp only [Bool.false_eq_true, if_false, Int.add_zero, if_true] at hst
            refine ⟨k + 1, by omega, by go_num, A', cp, by rw [hst], ?_, ?_, ?_, ?_⟩
            · rw [hst]; exact (HO.out.farG (HKl.out.apart HO.out (by decide)) _ _).alloc _
            · exact (HRes.out.farG (by omega) _ _).alloc _
            · rw [hst]; exact (HKl.out.set 1 _).alloc _
            · exact bAlloc (bSetG hb (by omega) _ _) _
          case measure => simp [intOf]; omega
        · have hh : hit l[k] 0 = true ∧ hit l[k] 1 = false := by simp [hit, k5, ← HEM.out]
          have HH := Lib.hid hh
          clear hh
          go_wp2
          go_roundw
          case rel =>
            have hst := HS7.out
            rw [HH.out.1, HH.out.2] at hst
            simp only [Bool.false_eq_true, if_false, Int.add_zero, if_true] at hst
            refine ⟨k + 1, by omega, by go_num, A', cp, by rw [hst], ?_, ?_, ?_, ?_⟩
            · rw [hst]; exact (HO.out.farG (HKl.out.apart HO.out (by decide)) _ _).alloc _
            · exact (HRes.out.farG (by omega) _ _).alloc _
            · rw [hst]; exact (HKl.out.set 0 _).alloc _
            · exact bAlloc (bSetG hb (by omega) _ _) _
          case measure => simp [intOf]; omega
        · have hh : hit l[k] 0 = false ∧ hit l[k] 1 = false := by
            simp only [beq_eq_false_iff_ne, ne_eq] at m1 m2
            simp [hit, k5, ← HEM.out, m1, m2]
          have HH := Lib.hid hh
          clear hh
          go_wp2
          go_roundw
          case rel =>
            have hst := HS7.out
            rw [HH.out.1, HH.out.2] at hst
            simp only [Bool.false_eq_true, if_false, Int.add_zero] at hst
            refine ⟨k + 1, by omega, by go_num, A', cp, by rw [hst], ?_, ?_, ?_, bAlloc hb _⟩
            · rw [hst]; exact HO.out.alloc _
            · exact HRes.out.alloc _
            · rw [hst]; exact HKl.out.alloc _
          case measure => simp [intOf]; omega
    · have hkl2 : l.take k = l := List.take_of_length_le (by omega)
      rw [hkl2] at hown hkl
      rw [hkl2]
      have r0 := hres.cell 0
      have r1 := hres.cell 1
      have f0 := hres.frozen 0
      have f1 := hres.frozen 1
      have k0 := hkl.cell 0
      have k1 := hkl.cell 1
      simp only [List.getElem?_toArray, List.getElem?_cons_zero, List.getElem?_cons_succ] at k0 k1 r0 r1
      have HO := Lib.hid hown
      have HR2 := Lib.hid hres
      clear hown hkl2 hres hkl t1 t2 t3 t4 t5
      go_wp2
      go_region
      go_wp2
      have hfin : Blk ((wr.setCell ⟨w.heap.size, 0, none⟩ (.int .i64 (thr l).a)).setCell ⟨w.heap.size, 1, none⟩ (.int .i64 (thr l).b)).drew w.heap.size 25 #[.int .i64 (thr l).a, .int .i64 (thr l).b] := ((HR2.out.set 0 _).set 1 _).drew
      have g0 := hfin.cell 0
      have g1 := hfin.cell 1
      simp only [List.getElem?_toArray, List.getElem?_cons_zero, List.getElem?_cons_succ] at g0 g1
      refine bodyPost_ret (v := .tuple #[.slice A' (thr l).out.length cp, .agg #[.int .i64 (thr l).a, .int .i64 (thr l).b]]) ?_ rfl ⟨A', cp, rfl, ?_, ?_⟩
      · simp [results, Tryd.results21, go_sem, g0, g1]
      · exact ((HO.out.farG (HR2.out.apart HO.out (by decide)) _ _).farG (HR2.out.apart HO.out (by decide)) _ _).drew
      · exact (bSetG (bSetG hb (Nat.le_refl _) _ _) (Nat.le_refl _) _ _).drew

set_option maxHeartbeats 400000 in
theorem rounds_any (A : Option Addr) (c : Nat) (l : List Ev) (w : World) (hn : l.length ≤ 1000000) (hr : Rd w w.heap.size A (l.flatMap Ev.cells)) (hok : rightEv 0 l = true) :
    Calls Tryd.prog 12 #[.slice A l.length c] w fun e w' => ∃ A' cp, e = .returned (.tuple #[.slice A' (thr l).out.length cp, .int .i64 0]) ∧
      OwnL w' w.heap.size 27 4 (.slice A' (thr l).out.length cp) Rnd.cells (thr l).out ∧ Below w.heap.size w w' := by
  have HR := Lib.hid hr
  have HK := Lib.hid hok
  clear hr hok
  go_enter Tryd.func12, Tryd.ntmps12
  go_wp2_with fail
  refine (right_any _ _ l _ hn HR.out).mono ?_
  rintro e w1 ⟨rfl, hb1⟩
  rw [HK.out]
  go_wp2_with fail
  refine (through_any _ _ l _ hn ((HR.out.below hb1 (Nat.le_refl _)).more hb1.size)).mono ?_
  rintro e w2 ⟨A', cp, rfl, hown, hb2⟩
  have HO := Lib.hid hown
  clear hown
  go_wp2
  go_ret2
  exact ⟨A', cp, rfl, (HO.out.more hb1.size).alloc _, bAlloc (bTrans hb1 hb2) _⟩

set_option maxHeartbeats 400000 in
theorem rounds_no (A : Option Addr) (c : Nat) (l : List Ev) (w : World) (hn : l.length ≤ 1000000) (hr : Rd w w.heap.size A (l.flatMap Ev.cells)) (hok : rightEv 0 l = false) :
    Calls Tryd.prog 12 #[.slice A l.length c] w fun e w' => e = .returned (.tuple #[.slice none 0 0, .int .i64 1]) ∧ Below w.heap.size w w' := by
  have HR := Lib.hid hr
  have HK := Lib.hid hok
  clear hr hok
  go_enter Tryd.func12, Tryd.ntmps12
  go_wp2_with fail
  refine (right_any _ _ l _ hn HR.out).mono ?_
  rintro e w1 ⟨rfl, hb1⟩
  rw [HK.out]
  go_wp2
  go_ret2
  exact ⟨rfl, hb1⟩



def evD : Ev := ⟨0, 2, 5, 0, 0, 0, 0, 0, 0⟩
def evR : Ev := ⟨0, 0, 7, 0, 0, 0, 0, 0, 0⟩
set_option maxRecDepth 100000 in
set_option maxHeartbeats 1000000 in
theorem awake_any (w : World) : Calls Tryd.prog 4 #[] w fun e w' => e = .returned (.bool true) ∧ Below w.heap.size w w' := by
  go_enter Tryd.func4, Tryd.ntmps4
  go_wp2_with fail
  refine (rounds_any _ _ [evD, evD, evD, evR] _ (by simp) ?_ rfl).mono ?_
  · have := (OwnL.lit (w := w.alloc (.cells #[.int .i64 0, .int .i64 2, .int .i64 5, .int .i64 0, .int .i64 0, .int .i64 0, .int .i64 0, .int .i64 0, .int .i64 0] 44)) (base := 0) (E := 44) (m := 9) (f := Ev.cells) [evD, evD, evD, evR] ([evD, evD, evD, evR].flatMap Ev.cells).toArray (Nat.zero_le _) (by simp [maxLen]) Ev.cells_length rfl (n := 4) (c := 4) rfl rfl).rd
    simpa [evD, evR, Ev.cells] using this
  have hv : (thr [evD, evD, evD, evR]).out = [⟨0, 3, 0, 0⟩] := rfl
  rw [hv]
  rintro e w1 ⟨A', cp, rfl, hown, hb⟩
  obtain ⟨g, rfl, -, -, -⟩ := hown.formA (by simp)
  have c0 := hown.cell Rnd.cells_length (k := 0) (j := 1) (u := .int .i64 3) (by simp) rfl
  have c1 := hown.cell Rnd.cells_length (k := 0) (j := 3) (u := .int .i64 0) (by simp) rfl
  simp only [Nat.zero_mul, Nat.zero_add, List.length_cons, List.length_nil] at c0 c1 ⊢
  clear hv hown
  go_wp2
  go_ret
  exact ⟨rfl, (by repeat (first | exact Below.refl _ _ | (with_reducible assumption) | apply bAlloc | apply below_drewN | apply Below.drew | (refine bTrans ?_ (by with_reducible assumption))))⟩
end Go.Proofs.YtfcllbhkimjhkaaDoor.Ser
