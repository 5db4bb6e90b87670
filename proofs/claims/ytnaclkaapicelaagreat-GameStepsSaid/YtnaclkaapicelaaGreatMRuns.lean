/-
  GameRuns: the document's steps, one behind the other, and a run of the game.
-/
import Derived.Outline
import Derived.Test.YtnaclkaapicelaaGreatMa7
import Derived.Test.YtnaclkaapicelaaGreatBot7
import Derived.Test.YtnaclkaapicelaaGreatMRun
import Derived.Test.YtnaclkaapicelaaGreatMa3
namespace Go.Proofs.YtnaclkaapicelaaGreat
open Go.RowKit
set_option maxRecDepth 100000
set_option linter.unusedSimpArgs false
/-- What the document's step answers, told ahead. -/
def rstTold (w : World) (T : Nat → Int) (L : List Ev) : Told :=
  ⟨fun v => ∃ A c, v = .tuple #[.agg (stCells T).toArray, .slice A L.length c], fun v W => ∀ A c, v = .tuple #[.agg (stCells T).toArray, .slice A L.length c] → OwnL W w.heap.size 65 9 (.slice A L.length c) Ev.cells L⟩
theorem rstTold_st {w : World} {T : Nat → Int} {L : List Ev} : ∀ v W U, (rstTold w T L).R v W → Grown W U → (rstTold w T L).R v U := fun _ _ _ h k A c hv => (h A c hv).below k
theorem rstTold_of {w W : World} {S T : Nat → Int} {L : List Ev} {n0 n1 : Nat} (hW : Grown w W) (hok : StOk S) (h0 : n0 < 64) (h1 : n1 < 64) (hTL : stepS n0 n1 S = (T, L)) :
    Calls Tryz.prog 13 #[.agg (stCells S).toArray, .agg #[.int .u8 n0, .int .u8 n1]] W fun e w' => ∃ v, e = .returned v ∧ ((rstTold w T L).S v ∧ (rstTold w T L).R v w') ∧ Grown W w' := by
  refine (r12Step_any hok h0 h1 T L hTL).mono ?_
  rintro e w' ⟨A, n, c, rfl, ho, hb⟩
  obtain rfl := ho.len
  refine ⟨_, rfl, ⟨⟨A, c, rfl⟩, fun A' c' hv => ?_⟩, hb⟩
  simp only [Value.tuple.injEq, Array.mk.injEq, List.cons.injEq, Value.slice.injEq, true_and, and_true] at hv
  obtain ⟨rfl, rfl⟩ := hv
  exact ho.more (Below.size hW)
theorem runs_plain {T : Nat → Int} {L : List Ev} {q : Nat × Nat} {r : List (Nat × Nat)} {x : (Nat → Int) × List Ev × Int} (h : runR T L (q :: r) = x) : (if stepE T q.1 q.2 = 0 then runR (stepS q.1 q.2 T).1 (L ++ (stepS q.1 q.2 T).2) r else (zeroT, [], stepE T q.1 q.2)) = x := h
section
variable {A : Option Addr} {c : Nat} {l : List (Nat × Nat)} {seed : Int} {w : World}
set_option maxHeartbeats 4000000 in
theorem runs_1 (hn : 400 < l.length) : Calls Tryz.prog 4 #[.int .u32 seed, .slice A l.length c] w fun e w' => e = .returned (.bool true) ∧ Below w.heap.size w w' := by
  obtain ⟨n, hl⟩ : ∃ n, l.length = n := ⟨_, rfl⟩
  rw [hl] at hn ⊢
  have g1 : decide ((400 : Int) < (n : Int)) = true := decide_eq_true (by omega)
  clear hl
  go_enter Tryz.func4, Tryz.ntmps4
  go_wp2_with (first | (go_at_call 7; refine (awake12_any _).mono ?_; rintro e w2 ⟨rfl, hb2⟩))
  go_ret
  exact ⟨rfl, hb2⟩
set_option maxHeartbeats 16000000 in
theorem runs_2 (hs : U32 seed) (hn : ¬ 400 < l.length) (hrd : Rd w w.heap.size A (l.flatMap pbCells)) (hb : ∀ q ∈ l, q.1 < 256 ∧ q.2 < 256) : Calls Tryz.prog 4 #[.int .u32 seed, .slice A l.length c] w fun e w' => e = .returned (.bool true) ∧ Below w.heap.size w w' := by
  obtain ⟨n, hl⟩ : ∃ n, l.length = n := ⟨_, rfl⟩
  rw [hl] at hn ⊢
  have g1 : decide ((400 : Int) < (n : Int)) = false := decide_eq_false (by omega)
  have hn400 : n ≤ 400 := by omega
  obtain ⟨TE, LE, eE, hE⟩ : ∃ T L e, runR (beginS seed) [] l = (T, L, e) := ⟨_, _, _, rfl⟩
  have hok := begin_ok hs
  have hz0 : beginS seed 0 = 0 := rfl
  have hz2 : beginS seed 2 = 0 := rfl
  have hrun := fun (W : World) (hr : Rd W W.heap.size A (l.flatMap pbCells)) => run_any (beginS seed) A c l W (.inl ⟨hok, by rw [hz0]; omega, by rw [hz2]; omega⟩) (by omega) hr hb
  simp only [hE, hl] at hrun
  obtain ⟨m, hm⟩ : ∃ m, LE.length = m := ⟨_, rfl⟩
  simp only [hm] at hrun
  have HM := Lib.hid hm
  obtain ⟨CE, hce⟩ : ∃ CE : Array Value, (stCells TE).toArray = CE := ⟨_, rfl⟩
  obtain ⟨CB, hcb⟩ : ∃ CB : Array Value, (stCells (beginS seed)).toArray = CB := ⟨_, rfl⟩
  rw [hce, hcb] at hrun
  have hbeg := fun W => gBegin_any seed W
  have hrbg := fun W => r12Begin_any seed W
  rw [hcb] at hbeg hrbg
  have hsz : CE.size = 60 := by rw [← hce, List.size_toArray, stCells_length]
  have hszb : CB.size = 60 := by rw [← hcb, List.size_toArray, stCells_length]
  have H1E : Hid (CE.all (·.oneCell') = true) := Lib.hid (by rw [← hce]; exact all_oneCell_toArray (int_one _))
  have H1B : Hid (CB.all (·.oneCell') = true) := Lib.hid (by rw [← hcb]; exact all_oneCell_toArray (int_one _))
  have HSZE : Hid ((Tryz.prog.info? 33).map (·.size) = some CE.size) := Lib.hid (by rw [hsz]; kernel_rfl)
  have HSZB : Hid ((Tryz.prog.info? 33).map (·.size) = some CB.size) := Lib.hid (by rw [hszb]; kernel_rfl)
  obtain ⟨CZ, hcz⟩ : ∃ CZ : Array Value, (stCells zeroT).toArray = CZ := ⟨_, rfl⟩
  have hbz := built_zero
  rw [hcz] at hbz
  have HSIE := Lib.hid hsz
  have HSIB := Lib.hid hszb
  have HCE := Lib.hid hce
  have HCB := Lib.hid hcb
  have HCZ := Lib.hid hcz
  have HBZ := Lib.hid hbz
  have HRUN := Lib.hid hrun
  have HBEG := Lib.hid hbeg
  have HRBG := Lib.hid hrbg
  have HOK := Lib.hid hok
  have HE := Lib.hid hE
  have HN := Lib.hid hl
  have HRD := Lib.hid hrd
  have HB := Lib.hid hb
  clear hl hE hok hrun hm hce hcb hbeg hrbg hsz hszb hcz hbz hrd hb hn hz0 hz2 hs
  go_enter Tryz.func4, Tryz.ntmps4
  go_upto_region 5 with (first | (go_at_call 7; refine (awake12_any _).mono ?_; rintro e w2 ⟨rfl, hb2⟩; have HB2 := Lib.hid hb2; clear hb2))
  go_upto_region 6 with (first
    | (go_at_call 11; refine (HBEG.out _).mono ?_; rintro e w3 ⟨rfl, hb3⟩; have HB3 := Lib.hid (bTrans HB2.out hb3); clear hb3)
    | (go_at_call 16; refine (HRUN.out _ (HRD.out.below HB3.out (Nat.le_refl _) |>.more (Below.size HB3.out))).mono ?_; rintro e w4 ⟨AE, cE, rfl, ho, hb4⟩; have HO4 := Lib.hid (ho.more (Below.size HB3.out)); have HB4 := Lib.hid (bTrans HB3.out hb4); have HL34 := Lib.hid (Below.size HB3.out); clear ho hb4)
    | (refine wpList_store_mid rfl 33 (.tmp 5) (.tmp 23) rfl w4.heap.size 0 CE rfl rfl (there_new _ _ _ (by rw [HSIE.out]; rfl)) HSZE.out H1E.out ?_))
  refine named_put (F := fun W => Code.wp _ _ _ _ W) (by rw [Array.length_toList, HSIE.out]; rfl) ?_
  intro w5 hk5 hb5 hz5
  rw [Array.toArray_toList, ← HCE.out] at hk5
  have HK5 := Lib.hid hk5
  have HO5 := Lib.hid (HO4.out.below hb5)
  have hleb4 := HO4.out.block_lt
  have HLEB : Hid (∀ k, (Value.slice AE m cE).ownBlock = some k → k < w4.heap.size) := Lib.hid hleb4
  have HB5 := Lib.hid (bTrans HB4.out hb5)
  have hgs4 : w.heap.size ≤ w4.heap.size := Below.size HB4.out
  have hl5 := hk5.lt
  obtain ⟨gs, hgs⟩ : ∃ gs, w4.heap.size = gs := ⟨_, rfl⟩
  rw [hgs] at HK5 hl5 hgs4 HLEB ⊢
  clear hk5 hb5 hz5 hleb4 HO4 HB4 HRUN HBEG HB2 HB3 HL34 H1E HSZE hgs
  go_upto_region 7 with (first
    | (go_at_call 12; refine (HRBG.out _).mono ?_; rintro e w6 ⟨rfl, hb6⟩; have HK6 := Lib.hid (HK5.out.on hb6); have HO6 := Lib.hid (HO5.out.below hb6); have HB6 := Lib.hid (bTrans HB5.out hb6); have HL56 := Lib.hid (Below.size hb6); clear hb6)
    | (refine wpList_store_mid rfl 33 (.tmp 8) (.tmp 27) rfl w6.heap.size 0 CB rfl rfl (there_new _ _ _ (by rw [HSIB.out]; rfl)) HSZB.out H1B.out ?_))
  refine named_put (F := fun W => Code.wp _ _ _ _ W) (by rw [Array.length_toList, HSIB.out]; rfl) ?_
  intro w7 hk7 hb7 hz7
  rw [Array.toArray_toList, ← HCB.out] at hk7
  have HM7 := Lib.hid hk7
  have HK7 := Lib.hid (HK6.out.on hb7)
  have HO7 := Lib.hid (HO6.out.below hb7)
  have HB7 := Lib.hid (bTrans HB6.out hb7)
  have hl7 := hk7.lt
  have hgm4 : gs < w6.heap.size := by have := HL56.out; omega
  obtain ⟨gm, hgm⟩ : ∃ gm, w6.heap.size = gm := ⟨_, rfl⟩
  rw [hgm] at HM7 hl7 hgm4 ⊢
  clear hk7 hb7 hz7 HK6 HO6 HB6 HK5 HO5 HB5 HRBG HL56 H1B HSZB hgm hl5
  go_upto_region 8 with fail
  have ho8 : OwnL (w7.alloc (.cells #[] 65)) w7.heap.size 65 9 (.slice (some ⟨w7.heap.size, 0, none⟩) 0 0) Ev.cells [] := OwnL.lit [] #[] (Nat.le_refl _) (by decide) Ev.cells_length rfl rfl rfl
  have hk8 := HK7.out.alloc (.cells #[] 65)
  have hm8 := HM7.out.alloc (.cells #[] 65)
  have hp8 := HO7.out.alloc (.cells #[] 65)
  have hb8 := bAlloc HB7.out (.cells #[] 65)
  have hl8 : w7.heap.size ≤ (w7.alloc (.cells #[] 65)).heap.size := by simp
  obtain ⟨w8, hw8⟩ : ∃ w8, w7.alloc (.cells #[] 65) = w8 := ⟨_, rfl⟩
  rw [hw8] at ho8 hk8 hm8 hp8 hb8 hl8 ⊢
  obtain ⟨bt, hbt⟩ : ∃ bt, w7.heap.size = bt := ⟨_, rfl⟩
  rw [hbt] at ho8 hl7 hl8 ⊢
  have HT8 := Lib.hid ho8
  have HK8 := Lib.hid hk8
  have HM8 := Lib.hid hm8
  have HO8 := Lib.hid hp8
  have HB8 := Lib.hid hb8
  clear ho8 hk8 hm8 hp8 hb8 hw8 hbt HK7 HM7 HO7 HB7
  go_wp2_with fail
  go_loopw [9, 10] (fun u v wr => ∃ (k : Nat) (T : Nat → Int) (L : List Ev), k ≤ n ∧ v = .int .i64 k ∧ Hid (runR T L (l.drop k) = (TE, LE, eE)) ∧ Hid (StOk T ∧ T 0 ≤ k ∧ T 2 ≤ k) ∧ Hid (L.length ≤ 22 * k) ∧ Hid (OwnL wr bt 65 9 u Ev.cells L) ∧ Hid (Blk wr gs 33 (stCells TE).toArray) ∧ Hid (Blk wr gm 33 (stCells T).toArray) ∧ Hid (OwnL wr w.heap.size 65 9 (.slice AE m cE) Ev.cells LE) ∧ Hid (Below w.heap.size w wr) ∧ bt ≤ wr.heap.size) (fun _ v _ => n - (intOf v).toNat)
  case atStart => exact ⟨0, beginS seed, [], Nat.zero_le _, rfl, by rw [List.drop_zero]; exact HE, Lib.hid ⟨HOK.out, (show (0 : Int) ≤ ((0 : Nat) : Int) by decide), (show (0 : Int) ≤ ((0 : Nat) : Int) by decide)⟩, Lib.hid (by simp), HT8, HK8, HM8, HO8, HB8, hl8⟩
  case round =>
    obtain ⟨k, T, L, hk, rfl, HRU, HTO, HLL, HTD, HGS, HGM, HLE, HBW, hbr⟩ := hrel
    clear HT8 HK8 HM8 HO8 HB8 hl8
    have hgl := HGS.out.lt
    have hgml := HGM.out.lt
    by_cases hlt : k < n
    · have hil : k < l.length := by rw [HN.out]; exact hlt
      obtain ⟨b, off, hA, hbl, p0, p1⟩ := (HRD.out.below HBW.out (Nat.le_refl _)).pbs hil
      obtain ⟨hx1, hy1⟩ := HB.out l[k] (List.getElem_mem hil)
      have hru0 := HRU.out
      rw [List.drop_eq_getElem_cons hil] at hru0
      obtain ⟨x, hx⟩ : ∃ x, l[k].1 = x := ⟨_, rfl⟩
      obtain ⟨y, hy⟩ : ∃ y, l[k].2 = y := ⟨_, rfl⟩
      have hru := runs_plain hru0
      rw [hx, hy] at hru
      rw [hx] at p0 hx1
      rw [hy] at p1 hy1
      subst hA
      have HRX := Lib.hid hru
      have hbw : b < wr.heap.size := by have := Below.size HBW.out; omega
      clear hru hru0 hx hy hil HRU
      by_cases hx64 : x < 64
      · have gx : decide ((63 : Int) < (x : Int)) = false := decide_eq_false (by omega)
        by_cases hy64 : y < 64
        · as_aux_lemma =>
            have gy : decide ((63 : Int) < (y : Int)) = false := decide_eq_false (by omega)
            obtain ⟨T', L', hTL⟩ : ∃ T' L', stepS x y T = (T', L') := ⟨_, _, rfl⟩
            have hF : T 0 < 1073741824 := by have := HTO.out.2.1; omega
            have hR : T 2 < 1073741824 := by have := HTO.out.2.2; omega
            obtain ⟨k1, k2, k3, k4, k5⟩ := stepS_ok x y HTO.out.1 hF hR
            have hrn := HRX.out
            rw [if_pos (stepE_zero HTO.out.1 hF hx64 hy64), hTL] at hrn
            rw [hTL] at k1 k2 k3 k5
            have HRN : Hid (runR T' (L ++ L') (l.drop (k + 1)) = (TE, LE, eE)) := Lib.hid hrn
            have HTN : Hid (StOk T' ∧ T' 0 ≤ (k + 1 : Nat) ∧ T' 2 ≤ (k + 1 : Nat)) := Lib.hid ⟨k1, by have h1 : T' 0 = T 0 + 1 := k3; have := HTO.out.2.1; omega, by have h1 : T' 2 ≤ T 2 + 1 := k5; have := HTO.out.2.2; omega⟩
            have HL22 : Hid (L'.length ≤ 22) := Lib.hid k2
            have HSTEP : Hid (∀ W, Grown wr W → Calls Tryz.prog 13 #[.agg (stCells T).toArray, .agg #[.int .u8 x, .int .u8 y]] W fun e w' => ∃ v, e = .returned v ∧ ((rstTold wr T' L').S v ∧ (rstTold wr T' L').R v w') ∧ Grown W w') := Lib.hid (fun W hW => rstTold_of hW HTO.out.1 hx64 hy64 hTL)
            clear k1 k2 k3 k4 k5 hrn hTL hF hR HRX
            have hKp := Keeps.base wr
            go_upto_region 13 with fail
            refine wp_region_mixed [.held, .pure, .pure, .pure, .held, .make, .pure, .pure, .pure, .make, .tail, .pure] (fun | 5 => rstTold wr T' L' | _ => newTold wr 33 (stCells zeroT).toArray) (by kernel_rfl) (by kernel_rfl) ?_
            refine mix_load rfl rfl (by assumption) 33 (.tmp 8) rfl gm 0 rfl (stCells T) _ hgml (Blk.range HGM.out) Tryz.underlying33 rfl (by kernel_rfl) ?_
            simp only [Act.put, List.setIfInBounds_toArray, List.set_cons_zero, List.set_cons_succ]
            repeat (first | (refine mix_pure rfl rfl rfl (fun K hK => ?_); go_big_quiet_op; refine hK _ ?_; clear hK K) | (refine mix_held rfl rfl rfl (by assumption) (fun K hK => ?_); go_big_quiet_op; refine hK _ ?_; clear hK K))
            refine mix_make rfl rfl (by assumption) rstTold_st (fun W hW => ?_) ?_
            · have HS2 := Lib.hid (HSTEP.out W hW)
              go_simp
              exact HS2.out
            rintro v ⟨A', c', rfl⟩ hKp2
            simp only [Act.put, List.setIfInBounds_toArray, List.set_cons_zero, List.set_cons_succ]
            repeat (first | (refine mix_pure rfl rfl rfl (fun K hK => ?_); go_big_quiet_op; refine hK _ ?_; clear hK K) | (refine mix_held rfl rfl rfl (by assumption) (fun K hK => ?_); go_big_quiet_op; refine hK _ ?_; clear hK K))
            refine mix_make rfl rfl (by assumption) newTold_st (newTold_makes rfl zero_state rfl) ?_
            rintro v ⟨g, rfl⟩ hKp3
            simp only [Act.put, List.setIfInBounds_toArray, List.set_cons_zero, List.set_cons_succ]
            refine mix_store rfl rfl 33 (.tmp 11) (.tmp 68) rfl g 0 (stCells T').toArray rfl rfl (fun W hW => ?_) (by kernel_rfl) (all_oneCell_toArray (int_one T')) ?_
            · have := (hW.2 g rfl).2
              exact Blk.there this (by rw [List.size_toArray, List.size_toArray, stCells_length, stCells_length]; decide)
            simp only [Act.put, List.setIfInBounds_toArray, List.set_cons_zero, List.set_cons_succ]
            repeat (first | (refine mix_pure rfl rfl rfl (fun K hK => ?_); go_big_quiet_op; refine hK _ ?_; clear hK K) | (refine mix_held rfl rfl rfl (by assumption) (fun K hK => ?_); go_big_quiet_op; refine hK _ ?_; clear hK K))
            refine mix_nil ?_
            rintro W' ⟨W, ⟨⟨hg, hR1⟩, hR2⟩, rfl⟩
            obtain ⟨hge, hBg⟩ := hR2 g rfl
            have hg : Grown wr W := hg
            have ho := hR1 A' c' rfl
            have hsz : (stCells T').toArray.toList.length = (stCells zeroT).toArray.size := by rw [List.size_toArray, stCells_length]; exact stCells_length T'
            have hBg' := hBg.whole (stCells T').toArray.toList hsz
            have ho' := OwnL.kept (row := some g) ho (oSetCells (World.grownBy.refl W g) 0 (stCells T').toArray.toList) (.inr (Blk.apart hBg ho (by decide)))
            have hS0 := (HGS.out.on hg).farC (show gs ≠ g by omega) 0 (stCells T').toArray.toList
            have hM0 := (HGM.out.on hg).farC (show gm ≠ g by omega) 0 (stCells T').toArray.toList
            have hT0 := OwnL.kept (row := some g) (HTD.out.below hg) (oSetCells (World.grownBy.refl W g) 0 (stCells T').toArray.toList) (.inr (Blk.apart hBg (HTD.out.below hg) (by decide)))
            have hL0 := OwnL.kept (row := some g) (HLE.out.below hg) (oSetCells (World.grownBy.refl W g) 0 (stCells T').toArray.toList) (.inr (Blk.apart hBg (HLE.out.below hg) (by decide)))
            have hbw5 := bSetCells (HBW.out.trans (Below.mono hg (Below.size HBW.out))) (show w.heap.size ≤ g by have := Below.size HBW.out; omega) 0 (stCells T').toArray.toList
            have hbr5 : bt ≤ (W.setCells g 0 (stCells T').toArray.toList).heap.size := by rw [setCells_size]; exact Nat.le_trans hbr (Below.size hg)
            obtain ⟨W5, hW5⟩ : ∃ W5, W.setCells g 0 (stCells T').toArray.toList = W5 := ⟨_, rfl⟩
            rw [hW5] at hBg' ho' hS0 hM0 hT0 hL0 hbw5 hbr5 ⊢
            rw [Array.toArray_toList] at hBg'
            have HG5 := Lib.hid hBg'
            have HO5 := Lib.hid ho'
            have HS5 := Lib.hid hS0
            have HM5 := Lib.hid hM0
            have HT5 := Lib.hid hT0
            have HL5 := Lib.hid hL0
            have HB5 := Lib.hid hbw5
            have hgb : bt ≤ g := by omega
            clear hW5 hBg ho hsz hBg' ho' hS0 hM0 hT0 hL0 hbw5 hR1 hR2 hg hKp hKp2 hKp3 HSTEP HGS HGM HTD HLE HBW p0 p1 hbw hx1 hy1 hbl hgl hgml hge
            have hgl5 := HG5.out.lt
            have hml5 := HM5.out.lt
            have HTH5 := Lib.hid (Blk.there HM5.out (o := 0) (n := (stCells T').toArray.size) (by rw [List.size_toArray, List.size_toArray, stCells_length, stCells_length]; decide))
            have HMN := Lib.hid (HM5.out.whole (stCells T').toArray.toList (by rw [List.size_toArray, stCells_length]; exact stCells_length T'))
            have HSN := Lib.hid (HS5.out.farC (show gs ≠ gm by omega) 0 (stCells T').toArray.toList)
            have HTN5 := Lib.hid (OwnL.kept (row := some gm) HT5.out (oSetCells (World.grownBy.refl W5 gm) 0 (stCells T').toArray.toList) (.inr (Blk.apart HM5.out HT5.out (by decide))))
            have HLN5 := Lib.hid (OwnL.kept (row := some gm) HL5.out (oSetCells (World.grownBy.refl W5 gm) 0 (stCells T').toArray.toList) (.inr (Blk.apart HM5.out HL5.out (by decide))))
            have HON5 := Lib.hid (OwnL.kept (row := some gm) HO5.out (oSetCells (World.grownBy.refl W5 gm) 0 (stCells T').toArray.toList) (.inr (Blk.apart HM5.out HO5.out (by decide))))
            have HBN := Lib.hid (bSetCells HB5.out (show w.heap.size ≤ gm by omega) 0 (stCells T').toArray.toList)
            have hbr6 : bt ≤ (W5.setCells gm 0 (stCells T').toArray.toList).heap.size := by rw [setCells_size]; exact hbr5
            go_upto_region 15 with (first
              | (refine wpList_load_mid rfl 33 (.tmp 11) rfl g 0 rfl (stCells T') _ (Blk.range HG5.out) Tryz.underlying33 rfl (by kernel_rfl) ?_)
              | (refine wpList_store_mid rfl 33 (.tmp 8) (.tmp 70) rfl gm 0 (stCells T').toArray rfl rfl HTH5.out (by kernel_rfl) (all_oneCell_toArray (int_one T')) ?_))
            obtain ⟨W6, hW6⟩ : ∃ W6, W5.setCells gm 0 (stCells T').toArray.toList = W6 := ⟨_, rfl⟩
            rw [hW6] at HMN HSN HTN5 HLN5 HON5 HBN hbr6 ⊢
            rw [Array.toArray_toList] at HMN
            clear hW6 HTH5 HG5 HO5 HS5 HM5 HT5 HL5 HB5 hgl5 hml5 hbr5
            obtain ⟨j, hj⟩ : ∃ j, L'.length = j := ⟨_, rfl⟩
            rw [hj] at HON5 ⊢
            have HJ := Lib.hid hj
            have hj22 : j ≤ 22 := by rw [← hj]; exact HL22.out
            have HRD6 : Hid (Rd W6 W6.heap.size A' (L'.flatMap Ev.cells)) := Lib.hid HON5.out.rd
            have HNB : Hid (∀ W7 : World, W6.grownBy W7 u9.ownBlock → OwnL W7 w.heap.size 65 9 (.slice AE m cE) Ev.cells LE ∧ Blk W7 gs 33 (stCells TE).toArray ∧ Blk W7 gm 33 (stCells T').toArray ∧ Below w.heap.size w W7) := Lib.hid (fun W7 hg1 => by
              refine ⟨HLN5.out.kept hg1 ?_, HSN.out.grown hg1 ?_, HMN.out.grown hg1 ?_, HBN.out.grown hg1 (Below.size HBN.out) (fun q hq => ?_)⟩
              · cases h1 : (Value.slice AE m cE).ownBlock with
                | none => exact .inl rfl
                | some q =>
                  right
                  intro h2
                  have k1 := HLEB.out q h1
                  have k2 := HTN5.out.base_le q h2.symm
                  omega
              · intro h2
                have := HTN5.out.base_le gs h2
                omega
              · intro h2
                have := HTN5.out.base_le gm h2
                omega
              · have := HTN5.out.base_le q hq
                omega)
            clear hj HL22
            have HR2 := Lib.hid (fun V => (r12Right_any T' V).mono fun e w' ⟨he, hb⟩ => (⟨by rw [he, HTN.out.1.right], hb⟩ : e = Ending.returned (.bool true) ∧ Below V.heap.size V w'))
            go_upto_region 16 with (first
              | (at_builtin; refine wpList_app_ev rfl (.tmp 71) (.tmp 72) rfl bt u9 L L' HTN5.out rfl W6.heap.size A' j c' HJ.out.symm rfl HRD6.out (by have := HLL.out; have := HJ.out; omega) hbr6 ?_; intro A7 c7 n7 W7 hn7 ho7 hg7; obtain ⟨q1, q2, q3, q4⟩ := HNB.out W7 hg7; have HN7 := hn7; have HT7 := Lib.hid ho7; have HL7 := Lib.hid q1; have HS7 := Lib.hid q2; have HM7 := Lib.hid q3; have HB7 := Lib.hid q4; have hbr7 := Nat.le_trans hbr6 (World.grownBy.size hg7); clear ho7 hg7 q1 q2 q3 q4))
            clear HNB HRD6 HON5 HTN5 HLN5 HSN HMN HBN hbr6
            have hml7 := HM7.out.lt
            go_wp2_with (first
              | (refine wpList_load_mid rfl 33 (.tmp 8) rfl gm 0 rfl (stCells T') _ (Blk.range HM7.out) Tryz.underlying33 rfl (by kernel_rfl) ?_)
              | (go_at_call 10; refine (HR2.out _).mono ?_; rintro e W8 ⟨rfl, hb8⟩; have HB8 := Lib.hid hb8; clear hb8))
            go_roundw
            case rel => exact ⟨k + 1, T', L ++ L', by omega, by go_num, HRN, HTN, Lib.hid (by rw [List.length_append]; have := HLL.out; have := HJ.out; omega), Lib.hid (HT7.out.below HB8.out), Lib.hid (HS7.out.on HB8.out), Lib.hid (HM7.out.on HB8.out), Lib.hid (HL7.out.below HB8.out), Lib.hid (bTrans HB7.out HB8.out), Nat.le_trans hbr7 (Below.size HB8.out)⟩
            case measure => simp [intOf]; omega
        · as_aux_lemma =>
            have gy : decide ((63 : Int) < (y : Int)) = true := decide_eq_true (by omega)
            have hbad := HRX.out
            rw [if_neg (show ¬ stepE T x y = 0 by rw [stepE_bad (by omega)]; decide), stepE_bad (by omega)] at hbad
            have HTE : Hid (TE = zeroT) := Lib.hid (by have := congrArg Prod.fst hbad; exact this.symm)
            have hle0 : LE = [] := by have := congrArg (fun z => z.2.1) hbad; exact this.symm
            have he1 : (1 : Int) = eE := by have := congrArg (fun z => z.2.2) hbad; exact this
            have hm0 : m = 0 := by rw [← HM.out, hle0]; rfl
            subst hm0
            subst he1
            clear hle0 hbad
            have HEQ : Hid (∀ W : World, (binOp .eql 33 (.agg (stCells TE).toArray) (.agg CZ)).run Tryz.prog W = .ok (.bool true) W) := Lib.hid (fun W => by rw [HTE.out, ← HCZ.out]; exact st_eql zeroT W)
            go_wp2_with (first
              | (refine wpList_load_mid rfl 33 (.tmp 5) rfl gs 0 rfl (stCells TE) _ (Blk.range HGS.out) Tryz.underlying33 rfl (by kernel_rfl) ?_)
              | (refine wpList_built rfl 33 [] rfl CZ [] rfl HBZ.out ?_)
              | (refine wpList_runs (.bool true) rfl (runs_eql rfl rfl rfl (by kernel_rfl) HEQ.out _) ?_))
            all_goals (go_ret; exact ⟨rfl, HBW.out⟩)
      · as_aux_lemma =>
          have gx : decide ((63 : Int) < (x : Int)) = true := decide_eq_true (by omega)
          have hbad := HRX.out
          rw [if_neg (show ¬ stepE T x y = 0 by rw [stepE_bad (by omega)]; decide), stepE_bad (by omega)] at hbad
          have HTE : Hid (TE = zeroT) := Lib.hid (by have := congrArg Prod.fst hbad; exact this.symm)
          have hle0 : LE = [] := by have := congrArg (fun z => z.2.1) hbad; exact this.symm
          have he1 : (1 : Int) = eE := by have := congrArg (fun z => z.2.2) hbad; exact this
          have hm0 : m = 0 := by rw [← HM.out, hle0]; rfl
          subst hm0
          subst he1
          clear hle0 hbad
          have HEQ : Hid (∀ W : World, (binOp .eql 33 (.agg (stCells TE).toArray) (.agg CZ)).run Tryz.prog W = .ok (.bool true) W) := Lib.hid (fun W => by rw [HTE.out, ← HCZ.out]; exact st_eql zeroT W)
          go_wp2_with (first
            | (refine wpList_load_mid rfl 33 (.tmp 5) rfl gs 0 rfl (stCells TE) _ (Blk.range HGS.out) Tryz.underlying33 rfl (by kernel_rfl) ?_)
            | (refine wpList_built rfl 33 [] rfl CZ [] rfl HBZ.out ?_)
            | (refine wpList_runs (.bool true) rfl (runs_eql rfl rfl rfl (by kernel_rfl) HEQ.out _) ?_))
          all_goals (go_ret; exact ⟨rfl, HBW.out⟩)
    · as_aux_lemma =>
        obtain rfl : k = n := by omega
        have hru := HRU.out
        rw [List.drop_eq_nil_of_le (by rw [HN.out]; exact Nat.le_refl _)] at hru
        have hT : T = TE := congrArg Prod.fst hru
        have hL : L = LE := congrArg (fun z => z.2.1) hru
        have he0 : (0 : Int) = eE := congrArg (fun z => z.2.2) hru
        subst hT
        subst hL
        subst he0
        clear hru HRU
        obtain ⟨A7, n7, c7, hv⟩ : ∃ A7 n7 c7, u9 = .slice A7 n7 c7 := by
          obtain ⟨A7, c7, hv⟩ := HTD.out.shape
          exact ⟨A7, _, c7, hv⟩
        subst hv
        have hn7 : n7 = m := by rw [HTD.out.len, HM.out]
        subst hn7
        have HSA : Hid (∀ W, Below wr.heap.size wr W → Calls Tryz.prog 14 #[.slice AE n7 cE, .slice A7 n7 c7] W fun e w' => e = .returned (.bool true) ∧ Below W.heap.size W w') := Lib.hid (fun W hW => by
          have h1 := (HLE.out.below hW).rd
          have h2 := (HTD.out.below hW).rd
          have := same_any AE A7 cE c7 L L W (by have := HLL.out; omega) h1 h2
          rw [HM.out] at this
          refine this.mono ?_
          rintro e w' ⟨rfl, hb⟩
          exact ⟨by simp, hb⟩)
        have HRR := Lib.hid (fun V => (gRight_any T V).mono fun e w' ⟨he, hb⟩ => (⟨by rw [he, HTO.out.1.right], hb⟩ : e = Ending.returned (.bool true) ∧ Below V.heap.size V w'))
        have hq0 : ((0 : Int) == 0) = true := rfl
        go_wp2_with (first
          | (refine wpList_load_midG rfl 33 (.tmp 5) rfl gs 0 rfl (stCells T) _ (Blk.range HGS.out) Tryz.underlying33 rfl (by kernel_rfl) ?_)
          | (refine wpList_load_midG rfl 33 (.tmp 8) rfl gm 0 rfl (stCells T) _ (Blk.range HGM.out) Tryz.underlying33 rfl (by kernel_rfl) ?_)
          | (refine wpList_load_midG rfl 33 (.tmp 5) rfl gs 0 rfl (stCells T) _ (Blk.range HGS9.out) Tryz.underlying33 rfl (by kernel_rfl) ?_)
          | (refine wpList_runs (.bool true) rfl (runs_eql rfl rfl rfl (by kernel_rfl) (fun W => st_eql T W) _) ?_)
          | (go_at_call 14; refine (HSA.out _ (Below.refl _ _)).mono ?_; rintro e w9 ⟨rfl, hb9⟩; have HGS9 := Lib.hid (HGS.out.on hb9); have HB9 := Lib.hid (bTrans HBW.out hb9); have hgl9 := HGS9.out.lt; clear hb9)
          | (go_at_call 9; refine (HRR.out _).mono ?_; rintro e w10 ⟨rfl, hb10⟩; have HB10 := Lib.hid (bTrans HB9.out hb10); clear hb10))
        all_goals (go_ret; exact ⟨rfl, HB10.out⟩)
end
end Go.Proofs.YtnaclkaapicelaaGreat
