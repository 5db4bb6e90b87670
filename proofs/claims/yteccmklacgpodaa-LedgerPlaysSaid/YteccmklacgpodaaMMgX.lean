/-
  The document's Tell: a page that is told.
-/
import Derived.Test.YteccmklacgpodaaMp2
namespace Go.Proofs.Yteccmklacgpodaa
open Go.RowKit
set_option maxRecDepth 100000
set_option linter.unusedSimpArgs false
theorem evOk_frame {x : Ev} (h : evOk x = true) : 0 ≤ x.frame ∧ x.frame ≤ 1073741824 := by
  unfold evOk keyOk at h
  simp only [Bool.and_eq_true] at h
  have h1 := h.1.1.1.1.1.1.1.1
  unfold inB at h1
  exact of_decide_eq_true h1
theorem MgW.page2 {w : World} {gm : Nat} {most com : Int} {halt : Bool} {S : List Ev} {P : List TEnt} {A Ap : Option Addr} {c cp : Nat} (h : MgW w gm most S P com halt A c Ap cp) {k : Nat} (hk : k < P.length) : ∃ gp A' n' c', Ap = some ⟨gp, 0, none⟩ ∧ gp < w.heap.size ∧ w.cell? ⟨gp, k * 2, none⟩ = some (.int .i64 P[k].1) ∧ w.cell? ⟨gp, k * 2 + 1, none⟩ = some (.slice A' n' c') ∧ P[k].2.1 = .slice A' n' c' := by
  have hp := h.pages
  obtain ⟨gp, rfl, -, -, hlt⟩ := hp.formA (by omega)
  obtain ⟨A', c', hv⟩ := (h.rows P[k] (List.getElem_mem hk)).shape
  have c0 := hp.cell pgC_length (k := k) (j := 0) hk rfl
  have c1 := hp.cell pgC_length (k := k) (j := 1) hk rfl
  rw [hv] at c1
  exact ⟨gp, A', _, c', rfl, hlt, c0, c1, hv⟩
theorem MgW.farP {w w' : World} {gm : Nat} {most com : Int} {halt : Bool} {S : List Ev} {P : List TEnt} {A Ap : Option Addr} {c cp : Nat} (h : MgW w gm most S P com halt A c Ap cp) {base : Nat} {v : Value} {l : List TEnt} (ho : OwnL w base 30 2 v pgC l) (hg : w.grownBy w' v.ownBlock) (hb : ∀ r, (Value.slice Ap P.length cp).ownBlock = some r → r < base) : MgW w' gm most S P com halt A c Ap cp :=
  h.far hg (fun r hr => ⟨fun e => h.blk.apart ho (by decide) (by rw [hr, e]), h.live.apart ho (by decide) hr, fun e => absurd (ho.base_le r hr) (by have := hb r e; omega), fun p hp => (h.rows p hp).apart ho (by decide) hr⟩)
theorem rd_pg2 (w : World) (p : TEnt) {u : Value} (h : p.2.1 = u) : Rd (w.alloc (.cells #[.int .i64 p.1, u] 30)) (w.heap.size + 1) (some ⟨w.heap.size, 0, none⟩) ([p].flatMap pgC) := by
  subst h
  exact rd_pg1 w p
theorem Rd.keptM {w w' : World} {B gm : Nat} {A : Option Addr} {evs : List Ev} (h : Rd w B A (evs.flatMap Ev.cells)) {E : TypeId} {cs : Array Value} (hb : Blk w gm E cs) (hsz : cs.size < 9) (hk : KeptX w w' [gm]) : Rd w' B A (evs.flatMap Ev.cells) := fun hn => by
  obtain ⟨b, off, e, hlt, hc⟩ := h hn
  have hne : b ≠ gm := by
    intro hbg
    subst hbg
    have hlen : 9 ≤ (evs.flatMap Ev.cells).length := by
      cases evs with
      | nil => simp at hn
      | cons x r => rw [length_flatMap_const Ev.cells 9 Ev.cells_length]; simp; omega
    have h8 := hc 8 _ (List.getElem?_eq_getElem (show 8 < (evs.flatMap Ev.cells).length by omega))
    rw [hb.cell, Array.getElem?_eq_none (by omega)] at h8
    cases h8
  refine ⟨b, off, e, hlt, fun j u hu => ?_⟩
  have h1 := hc j u hu
  rw [← h1]
  unfold World.cell?
  rw [hk.block b (block_lt_of_cell h1) (by simpa using hne)]
section
variable {w : World} {gm : Nat} {most com : Int} {S : List Ev} {P : List TEnt} {AL Ap : Option Addr} {cL cp : Nat}
set_option maxHeartbeats 16000000 in
theorem rtell_ok (h : MgW w gm most S P com false AL cL Ap cp) (hS : LvOk S) (hl : S.length ≤ 256) (hm : most ≤ 256) (hP : P.length ≤ 1000) (f now : Int) (A : Option Addr) (c : Nat) (evs : List Ev) (hr : Rd w w.heap.size A (evs.flatMap Ev.cells)) (hE : fitsE false com evs f now = 0) :
    Calls Try.prog 34 #[.pointer (some ⟨gm, 0, none⟩), .agg #[.int .i64 f, .slice A evs.length c], .int .i64 now] w fun e w' => ∃ (A' : Option Addr) (n' c' : Nat) (v : Value) (AL' : Option Addr) (cL' : Nat) (Ap' : Option Addr) (cp' : Nat), e = .returned (.tuple #[.slice A' n' c', .int .i64 0]) ∧ OwnL w' w.heap.size 57 12 (.slice A' n' c') Cm.cells (tellF most now evs f S).2 ∧
      MgW w' gm most (tellF most now evs f S).1 (setT P f v evs) com false AL' cL' Ap' cp' ∧ KeptX w w' [gm] := by
  obtain ⟨-, hab, hcf⟩ := fitsE_zero hE
  obtain ⟨ho1, ho2, hfn, hnm⟩ := argB_of hab
  have hn64 := ordered_len ho1
  have HSE := Lib.hid (ordered_sorted ho1)
  have HOK := Lib.hid ho2
  obtain ⟨w1, hw1⟩ : ∃ w1, w1 = w.alloc (.cells #[.int .i64 f, .slice A evs.length c] 30) := ⟨_, rfl⟩
  have HB : Hid (Below w.heap.size w w1) := Lib.hid (by rw [hw1]; exact bAlloc (Below.refl _ _) _)
  have HP : Hid (Blk w1 w.heap.size 30 #[.int .i64 f, .slice A evs.length c]) := Lib.hid (by rw [hw1]; exact Blk.new _ _ _)
  have HM : Hid (MgW w1 gm most S P com false AL cL Ap cp) := Lib.hid (by rw [hw1]; exact h.on (bAlloc (Below.refl _ _) _))
  have HRE : Hid (∀ W, KeptX w W [gm] → Rd W w.heap.size A (evs.flatMap Ev.cells)) := Lib.hid (fun W hW => hr.keptM h.blk (by simp) hW)
  have HO := Lib.hid (rordered_any A c evs (by omega) w1 ((hr.below HB.out (Nat.le_refl _)).more HB.out.size))
  rw [ho1] at HO
  obtain ⟨n, hnn⟩ : ∃ n, evs.length = n := ⟨_, rfl⟩
  have HN := Lib.hid hnn
  have HS := Lib.hid hS
  have HGW := Lib.hid h.cells.1
  obtain ⟨X, hX⟩ : ∃ X, tellF most now evs f S = X := ⟨_, rfl⟩
  have HX : Hid (X = evs.foldl (startS most now) (S.foldl (dstep evs f) (S, []))) := Lib.hid (by rw [← hX, ← cancelF_all]; rfl)
  rw [hX]
  rw [hnn] at HO HP hw1 hn64 ⊢
  clear hE hnn hr h hab ho1 ho2 hS hX
  go_enter Try.func34, Try.ntmps34
  go_upto_region 1 with fail
  rw [← hw1]
  clear hw1
  have p0 := HP.out.cell 0
  have p1 := HP.out.cell 1
  have lp := HP.out.lt
  simp only [List.getElem?_toArray, List.getElem?_cons_zero, List.getElem?_cons_succ] at p0 p1
  obtain ⟨lg, -, -, -, c3, c4⟩ := HM.out.cells
  have HP2 : Hid (∀ W, Below w1.heap.size w1 W → (W.cell? ⟨w.heap.size, 0, none⟩ = some (.int .i64 f) ∧ W.cell? ⟨w.heap.size, 1, none⟩ = some (.slice A n c)) ∧ w.heap.size < W.heap.size ∧ gm < W.heap.size ∧ W.cell? ⟨gm, 3, none⟩ = some (.int .i64 com)) := Lib.hid (fun W hW => ⟨⟨(HP.out.on hW).cell 0, (HP.out.on hW).cell 1⟩, (HP.out.on hW).lt, (HM.out.on hW).cells.1, (HM.out.on hW).cells.2.2.2.2.1⟩)
  go_upto_region 5 with (first | (go_at_call 51; refine HO.out.mono ?_; rintro e w2 ⟨rfl, hb2⟩; obtain ⟨⟨p02, p12⟩, l2, lg2, c32⟩ := HP2.out w2 hb2; have HBX := Lib.hid hb2; clear hb2))
  go_wp2_with fail
  go_loopw [8] (fun v wr => ∃ k : Nat, k ≤ n ∧ v = .int .i64 k ∧ Hid (Below w1.heap.size w1 wr)) (fun v _ => n - (intOf v).toNat)
  case atStart => exact ⟨0, Nat.zero_le _, rfl, HBX⟩
  case round =>
    obtain ⟨k, hk, rfl, HBR⟩ := hrel
    clear p02 p12 l2 lg2 c32 HBX p0 p1 lp c3 c4 lg HO
    obtain ⟨⟨p0r, p1r⟩, lr, lgr, c3r⟩ := HP2.out wr HBR.out
    have HBW := Lib.hid (bTrans HB.out HBR.out)
    by_cases hlt : k < n
    · have hkE : k < evs.length := by rw [HN.out]; exact hlt
      obtain ⟨b, off, rfl, hbl, x0, -⟩ := (HRE.out wr (KeptX.ofBelow HBW.out _)).ev hkE
      have hbw : b < wr.heap.size := Nat.lt_of_lt_of_le hbl HBW.out.size
      rw [(HOK.out evs[k] (List.getElem_mem hkE)).2] at x0
      have hbf : (f != f) = false := by simp
      clear hkE hbl
      go_wp2_with fail
      refine wp_region_mild (by kernel_rfl) (by kernel_rfl) ?_
      repeat (go_big_quiet_step (fail))
      refine wpQuiet_nil ?_
      intro w4 hw'
      obtain ⟨⟨wq, k4⟩, hw''⟩ := hw'
      subst hw''
      go_wp2
      go_roundw
      case rel => exact ⟨k + 1, by omega, by go_num, Lib.hid (bTrans HBR.out k4)⟩
      case measure => simp [intOf]; omega
    · obtain rfl : n = k := by omega
      go_wp2_with fail
      refine wp_region_mild (by kernel_rfl) (by kernel_rfl) ?_
      repeat (go_big_quiet_step (fail))
      refine wpQuiet_nil ?_
      intro w4 hw'
      obtain ⟨⟨wq, k4⟩, hw''⟩ := hw'
      subst hw''
      go_upto_region 13 with fail
      obtain ⟨w5, hw5⟩ : ∃ w5, w5 = w4.alloc (.cells #[] 57) := ⟨_, rfl⟩
      have HB4 := Lib.hid (bTrans HBR.out k4)
      have HB5 : Hid (Below w1.heap.size w1 w5) := Lib.hid (by rw [hw5]; exact bAlloc HB4.out _)
      have hws4 : w.heap.size ≤ w4.heap.size := Nat.le_trans HB.out.size HB4.out.size
      have HO5 : Hid (OwnL w5 w.heap.size 57 12 (.slice (some ⟨w4.heap.size, 0, none⟩) 0 0) Cm.cells ([] : List Cm)) := Lib.hid (by
        rw [hw5]
        exact OwnL.lit (f := Cm.cells) (m := 12) (n := 0) (c := 0) [] #[] hws4 (by simp [maxLen]) Cm.cells_length rfl rfl rfl)
      rw [← hw5]
      clear hw5 p0r p1r lr lgr c3r HBW HBR HB4 k4
      have HM5 := Lib.hid (HM.out.on HB5.out)
      have HP5 := Lib.hid (HP.out.on HB5.out)
      have HK5 : Hid (KeptX w w5 [gm]) := Lib.hid (KeptX.ofBelow (bTrans HB.out HB5.out) _)
      obtain ⟨lg5, -, c15, -, -, -⟩ := HM5.out.cells
      obtain ⟨nS, hnS⟩ : ∃ nS, S.length = nS := ⟨_, rfl⟩
      have HNS := Lib.hid hnS
      rw [hnS] at c15 hl
      have HL5 : Hid (OwnL w5 0 43 9 (.slice AL nS cL) Ev.cells S) := Lib.hid (by rw [← hnS]; exact HM5.out.live)
      clear hnS HM HP HP2 HB5
      have HGM : Hid (w.heap.size ≠ gm) := Lib.hid (fun e => by have := HGW.out; omega)
      go_wp2_with fail
      go_loopw [9, 11] (fun u v wr => ∃ k : Nat, k ≤ nS ∧ v = .int .i64 k ∧ ∃ A' n' c' AL' cL', u = .slice A' n' c' ∧ Hid (OwnL wr w.heap.size 57 12 (.slice A' n' c') Cm.cells ((S.take k).foldl (dstep evs f) (S, [])).2) ∧ Hid (MgW wr gm most ((S.take k).foldl (dstep evs f) (S, [])).1 P com false AL' cL' Ap cp) ∧ Hid (Blk wr w.heap.size 30 #[.int .i64 f, .slice A n c]) ∧ Hid (OwnL wr 0 43 9 (.slice AL nS cL) Ev.cells S) ∧ Hid (KeptX w wr [gm])) (fun _ v _ => nS - (intOf v).toNat)
      case atStart => exact ⟨0, Nat.zero_le _, rfl, _, _, _, AL, cL, rfl, HO5, HM5, HP5, HL5, HK5⟩
      case round =>
        obtain ⟨k, hk, rfl, A', n', c', AL', cL', rfl, HO, HM, HP, HL, HK⟩ := hrel
        clear HO5 HM5 HP5 HL5 HK5 lg5 c15
        have hws := HK.out.size
        have p0 := HP.out.cell 0
        have p1 := HP.out.cell 1
        have lp := HP.out.lt
        simp only [List.getElem?_toArray, List.getElem?_cons_zero, List.getElem?_cons_succ] at p0 p1
        by_cases hlt : k < nS
        · have hkS : k < S.length := by rw [HNS.out]; exact hlt
          obtain ⟨b, off, rfl, hbl, x0, x1, x2, x3, x4, x5, x6, x7, x8⟩ := HL.out.rd.ev hkS
          have HSN := Lib.hid (foldl_snoc (dstep evs f) (S, []) S k hkS)
          obtain ⟨hs1, hs2, hs3⟩ := dstep_ok (evs := evs) (f := f) (S.take k) (S, []) HS.out
          have hs4 : ((S, []) : Sc).2.length = 0 := rfl
          have hs5 : ((S, []) : Sc).1.length = S.length := rfl
          have hs6 : (S.take k).length ≤ k := by rw [List.length_take]; omega
          rw [hs4] at hs3
          rw [hs5, HNS.out] at hs2
          obtain ⟨o, ho⟩ : ∃ o, S[k] = o := ⟨_, rfl⟩
          obtain ⟨s, hs⟩ : ∃ s, (S.take k).foldl (dstep evs f) (S, []) = s := ⟨_, rfl⟩
          have HAL : Hid (∀ W, OwnL W 0 43 9 (.slice (some ⟨b, off, none⟩) nS cL) Ev.cells S → EvAt W b (off + k * 9) o ∧ b < W.heap.size) := Lib.hid (fun W hW => by
            obtain ⟨b', off', hA, hb', hy⟩ := hW.rd.ev hkS
            cases hA
            rw [ho] at hy
            exact ⟨hy, hb'⟩)
          have HKY : Hid (∀ W, OwnL W 0 43 9 (.slice (some ⟨b, off, none⟩) nS cL) Ev.cells S → W.rangeAt b (off + k * 9) o.key.cells ∧ b < W.heap.size) := Lib.hid (fun W hW => by
            obtain ⟨⟨y0, y1, y2, y3, -⟩, hb'⟩ := HAL.out W hW
            refine ⟨fun j v hv => ?_, hb'⟩
            have h4 : j < 4 := by
              have := (List.getElem?_eq_some_iff.1 hv).1
              simpa [Key4.cells] using this
            obtain rfl | rfl | rfl | rfl : j = 0 ∨ j = 1 ∨ j = 2 ∨ j = 3 := by omega
            · rw [← hv]; exact y0
            · rw [← hv]; exact y1
            · rw [← hv]; exact y2
            · rw [← hv]; exact y3)
          rw [ho] at x0 x1 x2 x3 x4 x5 x6 x7 x8 HSN
          rw [hs] at HSN hs2 hs3 HO HM
          clear ho hs hs1 hs4 hs5 hkS
          by_cases hof : o.frame = f
          · have hbf : (o.frame != f) = false := by simp [hof]
            have HDS : Hid (dstep evs f s o = if staysE evs o = true then s else (dropK s.1 o.key, s.2 ++ [⟨3, o, 0, false⟩])) := Lib.hid (by unfold dstep; rw [if_pos hof]; rfl)
            clear hof
            have HAT : Hid (∀ W, Below wr.heap.size wr W → Calls Try.prog 52 #[.slice A n c, o.key.val] W fun e w' => e = .returned (.int .i64 (atI evs o.key)) ∧ Below W.heap.size W w') := Lib.hid (fun W hW => by
              rw [← HN.out]
              exact rat_any A c evs o.key W (by have := HN.out; omega) (by
                have h1 := HRE.out W (HK.out.below hW)
                exact h1.more (Nat.le_trans HK.out.size hW.size)))
            have hab := atI_bd evs o.key
            have HPC : Hid (∀ W, Below wr.heap.size wr W → (W.cell? ⟨w.heap.size, 0, none⟩ = some (.int .i64 f) ∧ W.cell? ⟨w.heap.size, 1, none⟩ = some (.slice A n c)) ∧ w.heap.size < W.heap.size) := Lib.hid (fun W hW => ⟨⟨(HP.out.on hW).cell 0, (HP.out.on hW).cell 1⟩, (HP.out.on hW).lt⟩)
            obtain ⟨q, hq⟩ : ∃ q, atI evs o.key = q := ⟨_, rfl⟩
            have HQ := Lib.hid hq
            rw [hq, HN.out] at hab
            rw [hq] at HAT
            clear hq
            go_upto_region 17 with fail
            refine wp_region_mild (by kernel_rfl) (by kernel_rfl) ?_
            repeat (go_big_quiet_step (fail))
            refine wpQuiet_nil ?_
            intro w6 hw'
            obtain ⟨⟨wq, k6⟩, hw''⟩ := hw'
            subst hw''
            obtain ⟨⟨p06, p16⟩, lp6⟩ := HPC.out w6 k6
            obtain ⟨h6, hb6⟩ := HAL.out w6 (HL.out.below k6)
            obtain ⟨u0, u1, u2, u3, u4, u5, u6, u7, u8⟩ := h6
            have HAT6 : Hid (∀ W, Below w6.heap.size w6 W → Calls Try.prog 52 #[.slice A n c, o.key.val] W fun e w' => e = .returned (.int .i64 q) ∧ Below W.heap.size W w') := Lib.hid (fun W hW => HAT.out W (bTrans k6 hW))
            have HB6 := Lib.hid k6
            unfold Key4.val at HAT6
            clear x0 x1 x2 x3 x4 x5 x6 x7 x8 p0 p1 lp k6 HAT hbl
            go_upto_region 18 with fail
            refine wp_region_mild (by kernel_rfl) (by kernel_rfl) ?_
            repeat (go_big_quiet_step ((go_at_call 52; exact mild_of (HAT6.out _ (Ext.below _)))))
            refine wpQuiet_nil ?_
            intro w7 hw'
            obtain ⟨⟨wq, k7⟩, hw''⟩ := hw'
            subst hw''
            have HB7 := Lib.hid (bTrans HB6.out k7)
            obtain ⟨⟨p07, p17⟩, lp7⟩ := HPC.out w7 HB7.out
            obtain ⟨h7, hb7⟩ := HAL.out w7 (HL.out.below HB7.out)
            obtain ⟨v0, v1, v2, v3, v4, v5, v6, v7, v8⟩ := h7
            clear u0 u1 u2 u3 u4 u5 u6 u7 u8 p06 p16 lp6 k7 HAT6 HB6 hb6
            go_upto_region 19 with fail
            by_cases hat : atN evs o.key < evs.length
            · obtain ⟨j, hj⟩ : ∃ j, atN evs o.key = j := ⟨_, rfl⟩
              have hst := stays_at HSE.out hat
              have hqj : q = (atN evs o.key : Int) := by rw [← HQ.out]; unfold atI; rw [if_pos hat]
              obtain ⟨bE, offE, hAE, hbE, hyE⟩ := (HRE.out w7 (HK.out.below HB7.out)).ev hat
              simp only [hj] at hat hst hqj hyE
              obtain ⟨y, hy⟩ : ∃ y, evs[j]'hat = y := ⟨_, rfl⟩
              rw [hy] at hst hyE
              subst hAE
              subst hqj
              have hjn : j < n := by rw [← HN.out]; exact hat
              have hj0 : decide ((j : Int) < 0) = false := decide_eq_false (by omega)
              obtain ⟨-, -, -, -, y4, -, -, -, y8⟩ := hyE
              have hbE7 : bE < w7.heap.size := Nat.lt_of_lt_of_le hbE (Nat.le_trans hws HB7.out.size)
              clear hy hj hat hab hbE
              unfold likeE at hst
              by_cases ha : y.asset = o.asset
              · have hba : (y.asset != o.asset) = false := by simp [ha]
                by_cases hle : y.len = o.len
                · have hbl' : (y.len != o.len) = false := by simp [hle]
                  have HDR : Hid (dstep evs f s o = s) := Lib.hid (by rw [HDS.out, hst, decide_eq_true ha, decide_eq_true hle]; rfl)
                  clear hst ha hle HDS
                  refine wp_region_mild (by kernel_rfl) (by kernel_rfl) ?_
                  repeat (go_big_quiet_step (fail))
                  refine wpQuiet_nil ?_
                  intro w8 hw'
                  obtain ⟨⟨wq, k8⟩, hw''⟩ := hw'
                  subst hw''
                  have HB8 := Lib.hid (bTrans HB7.out k8)
                  go_wp2
                  go_roundw
                  case rel => exact ⟨k + 1, by omega, by go_num, A', n', c', AL', cL', rfl, Lib.hid (by rw [HSN.out, HDR.out]; exact HO.out.below HB8.out), Lib.hid (by rw [HSN.out, HDR.out]; exact HM.out.on HB8.out), Lib.hid (HP.out.on HB8.out), Lib.hid (HL.out.below HB8.out), Lib.hid (HK.out.below HB8.out)⟩
                  case measure => simp [intOf]; omega
                · have hbl' : (y.len != o.len) = true := by simp [hle]
                  have HDR : Hid (dstep evs f s o = (dropK s.1 o.key, s.2 ++ [⟨3, o, 0, false⟩])) := Lib.hid (by rw [HDS.out, hst, decide_eq_true ha, decide_eq_false hle]; rfl)
                  clear hst ha hle HDS
                  refine wp_region_mild (by kernel_rfl) (by kernel_rfl) ?_
                  repeat (go_big_quiet_step (fail))
                  refine wpQuiet_nil ?_
                  intro w77 hw'
                  obtain ⟨⟨wq, k77⟩, hw''⟩ := hw'
                  subst hw''
                  have HB77 := Lib.hid (bTrans HB7.out k77)
                  clear v0 v1 v2 v3 v4 v5 v6 v7 v8 p07 p17 lp7 k77 HB7 hb7
                  obtain ⟨w7, hw77⟩ : ∃ w, w77 = w := ⟨_, rfl⟩
                  rw [hw77] at HB77 ⊢
                  have HB7 := HB77
                  clear hw77 HB77
                  have HO7 := Lib.hid (HO.out.below HB7.out)
                  have HM7 := Lib.hid (HM.out.on HB7.out)
                  have HP7 := Lib.hid (HP.out.on HB7.out)
                  have HL7 := Lib.hid (HL.out.below HB7.out)
                  have HK7 := Lib.hid (HK.out.below HB7.out)
                  have hws7 := HK7.out.size
                  obtain ⟨hat7, hbl7⟩ := HAL.out w7 HL7.out
                  obtain ⟨z0, z1, z2, z3, z4, z5, z6, z7, z8⟩ := hat7
                  clear HO HM HP HL HK HB7
                  go_upto_region 21 with (first | (at_builtin; refine wpList_app_cm rfl (.tmp 118) (.tmp 124) rfl w.heap.size _ s.2 [⟨3, o, 0, false⟩] (HO7.out.alloc _) rfl _ _ 1 1 rfl rfl (rd_cm1 _ ⟨3, o, 0, false⟩) (by simp only [List.length_cons, List.length_nil]; omega) (by simp; omega) ?_; intro A8 c8 n8 w8 hn8 ho8 hg8; have HO8 := Lib.hid ho8; have HG8 := Lib.hid hg8; clear ho8 hg8))
                  have ho7 := HO7.out.alloc (.cells (Cm.cells ⟨3, o, 0, false⟩).toArray 57)
                  have HM8 : Hid (MgW w8 gm most s.1 P com false AL' cL' Ap cp) := Lib.hid ((HM7.out.on (bAlloc (Below.refl _ _) _)).farR ho7 HG8.out (by decide) (by decide) (by decide))
                  have HL8 : Hid (OwnL w8 0 43 9 (.slice (some ⟨b, off, none⟩) nS cL) Ev.cells S) := Lib.hid ((HL7.out.alloc _).keptR ho7 (by decide) HG8.out)
                  have HP8 := Lib.hid ((HP7.out.alloc _).grown HG8.out ((HP7.out.alloc _).apart ho7 (by decide)))
                  have HK8 : Hid (KeptX w w8 [gm]) := Lib.hid ((HK7.out.alloc _).grown HG8.out (fun r hr => .inr (ho7.base_le r hr)))
                  obtain ⟨hkr, hbl8⟩ := HKY.out w8 HL8.out
                  have HKR := Lib.hid hkr
                  obtain ⟨lg8, -, c18, -, -, -⟩ := HM8.out.cells
                  have HWO : Hid (∀ W, Grown w8 W → Calls Try.prog 53 #[.slice AL' s.1.length cL', o.key.val] W fun e w' => ∃ v, e = .returned v ∧ ((clnTold w8 (dropK s.1 o.key)).S v ∧ (clnTold w8 (dropK s.1 o.key)).R v w') ∧ Grown W w') := Lib.hid (fun W hW => by
                    refine (without_any AL' cL' s.1 o.key W (by omega) ((HM8.out.live.below hW).rd)).mono ?_
                    rintro e w' ⟨A9, c9, rfl, ho9, hb9⟩
                    exact ⟨_, rfl, ⟨⟨A9, c9, rfl⟩, ho9.more hW.size⟩, hb9⟩)
                  clear hkr ho7 HO7 HM7 HP7 HL7 HK7 HG8 z0 z1 z2 z3 z4 z5 z6 z7 z8 hbl7
                  have hKp := Keeps.base w8
                  refine wp_region_mixed [.pure, .pure, .pure, .pure, .held, .pure, .pure, .pure, .pure, .held, .make, .pure, .pure, .tail] (fun _ => clnTold w8 (dropK s.1 o.key)) (by kernel_rfl) (by kernel_rfl) ?_
                  repeat (first | (refine mix_pure rfl rfl rfl (fun K hK => ?_); go_big_quiet_op; refine hK _ ?_; clear hK K) | (refine mix_held rfl rfl rfl (by assumption) (fun K hK => ?_); go_big_quiet_op; refine hK _ ?_; clear hK K))
                  refine mix_load rfl rfl (by assumption) 41 (.tmp 134) rfl b (off + k * 9) rfl o.key.cells _ hbl8 HKR.out Try.underlying41 rfl (by kernel_rfl) ?_
                  simp only [Act.put, List.setIfInBounds_toArray, List.set_cons_zero, List.set_cons_succ]
                  refine mix_make rfl rfl (by assumption) clnTold_st (fun W hW => ?_) ?_
                  · have HS2 := Lib.hid (HWO.out W hW)
                    go_simp
                    exact HS2.out
                  rintro v ⟨Av, cv, rfl⟩ hKp2
                  simp only [Act.put, List.setIfInBounds_toArray, List.set_cons_zero, List.set_cons_succ]
                  repeat (first | (refine mix_pure rfl rfl rfl (fun K hK => ?_); go_big_quiet_op; refine hK _ ?_; clear hK K) | (refine mix_held rfl rfl rfl (by assumption) (fun K hK => ?_); go_big_quiet_op; refine hK _ ?_; clear hK K))
                  refine mix_store1 rfl rfl 28 (.tmp 138) (.tmp 136) rfl gm 1 (.slice Av (dropK s.1 o.key).length cv) rfl rfl (fun W hW => Blk.there (HM8.out.blk.on hW.1) (by simp)) (by kernel_rfl) rfl rfl ?_
                  refine mix_nil ?_
                  rintro W' ⟨V, ⟨hV, hOv⟩, rfl⟩
                  have hOv' : OwnL V w8.heap.size 43 9 (.slice Av (dropK s.1 o.key).length cv) Ev.cells (dropK s.1 o.key) := hOv
                  have hMV := HM8.out.on hV
                  have hgb := hMV.blk
                  have HM9 : Hid (MgW (V.setCell ⟨gm, 1, none⟩ (.slice Av (dropK s.1 o.key).length cv)) gm most (dropK s.1 o.key) P com false Av cv Ap cp) := Lib.hid (hMV.put 1 _ (hOv'.more (Nat.zero_le _)) hMV.pages hMV.rows rfl)
                  have HO9 := Lib.hid ((HO8.out.below hV).farG (hgb.apart (HO8.out.below hV) (by decide)) 1 (.slice Av (dropK s.1 o.key).length cv))
                  have HL9 := Lib.hid ((HL8.out.below hV).farG (hgb.apart (HL8.out.below hV) (by decide)) 1 (.slice Av (dropK s.1 o.key).length cv))
                  have HP9 := Lib.hid ((HP8.out.on hV).farG (show w.heap.size ≠ gm from HGM.out) 1 (.slice Av (dropK s.1 o.key).length cv))
                  have HK9 := Lib.hid ((HK8.out.below hV).setCell (g := gm) (.inl (by simp)) 1 (.slice Av (dropK s.1 o.key).length cv))
                  obtain ⟨w9, hw9⟩ : ∃ w9, V.setCell ⟨gm, 1, none⟩ (.slice Av (dropK s.1 o.key).length cv) = w9 := ⟨_, rfl⟩
                  rw [hw9] at HM9 HO9 HL9 HP9 HK9 ⊢
                  clear hw9 hV hOv hOv' hMV hgb hKp hKp2 HWO HKR HM8 HL8 HP8 HK8 HO8 lg8 c18 hbl8
                  go_wp2_with fail
                  go_roundw
                  case rel => exact ⟨k + 1, by omega, by go_num, A8, n8, c8, Av, cv, rfl, Lib.hid (by rw [HSN.out, HDR.out]; exact HO9.out), Lib.hid (by rw [HSN.out, HDR.out]; exact HM9.out), HP9, HL9, HK9⟩
                  case measure => simp [intOf]; omega
              · have hba : (y.asset != o.asset) = true := by simp [ha]
                have HDR : Hid (dstep evs f s o = (dropK s.1 o.key, s.2 ++ [⟨3, o, 0, false⟩])) := Lib.hid (by rw [HDS.out, hst, decide_eq_false ha]; rfl)
                clear hst ha HDS
                refine wp_region_mild (by kernel_rfl) (by kernel_rfl) ?_
                repeat (go_big_quiet_step (fail))
                refine wpQuiet_nil ?_
                intro w77 hw'
                obtain ⟨⟨wq, k77⟩, hw''⟩ := hw'
                subst hw''
                have HB77 := Lib.hid (bTrans HB7.out k77)
                clear v0 v1 v2 v3 v4 v5 v6 v7 v8 p07 p17 lp7 k77 HB7 hb7
                obtain ⟨w7, hw77⟩ : ∃ w, w77 = w := ⟨_, rfl⟩
                rw [hw77] at HB77 ⊢
                have HB7 := HB77
                clear hw77 HB77
                have HO7 := Lib.hid (HO.out.below HB7.out)
                have HM7 := Lib.hid (HM.out.on HB7.out)
                have HP7 := Lib.hid (HP.out.on HB7.out)
                have HL7 := Lib.hid (HL.out.below HB7.out)
                have HK7 := Lib.hid (HK.out.below HB7.out)
                have hws7 := HK7.out.size
                obtain ⟨hat7, hbl7⟩ := HAL.out w7 HL7.out
                obtain ⟨z0, z1, z2, z3, z4, z5, z6, z7, z8⟩ := hat7
                clear HO HM HP HL HK HB7
                go_upto_region 21 with (first | (at_builtin; refine wpList_app_cm rfl (.tmp 118) (.tmp 124) rfl w.heap.size _ s.2 [⟨3, o, 0, false⟩] (HO7.out.alloc _) rfl _ _ 1 1 rfl rfl (rd_cm1 _ ⟨3, o, 0, false⟩) (by simp only [List.length_cons, List.length_nil]; omega) (by simp; omega) ?_; intro A8 c8 n8 w8 hn8 ho8 hg8; have HO8 := Lib.hid ho8; have HG8 := Lib.hid hg8; clear ho8 hg8))
                have ho7 := HO7.out.alloc (.cells (Cm.cells ⟨3, o, 0, false⟩).toArray 57)
                have HM8 : Hid (MgW w8 gm most s.1 P com false AL' cL' Ap cp) := Lib.hid ((HM7.out.on (bAlloc (Below.refl _ _) _)).farR ho7 HG8.out (by decide) (by decide) (by decide))
                have HL8 : Hid (OwnL w8 0 43 9 (.slice (some ⟨b, off, none⟩) nS cL) Ev.cells S) := Lib.hid ((HL7.out.alloc _).keptR ho7 (by decide) HG8.out)
                have HP8 := Lib.hid ((HP7.out.alloc _).grown HG8.out ((HP7.out.alloc _).apart ho7 (by decide)))
                have HK8 : Hid (KeptX w w8 [gm]) := Lib.hid ((HK7.out.alloc _).grown HG8.out (fun r hr => .inr (ho7.base_le r hr)))
                obtain ⟨hkr, hbl8⟩ := HKY.out w8 HL8.out
                have HKR := Lib.hid hkr
                obtain ⟨lg8, -, c18, -, -, -⟩ := HM8.out.cells
                have HWO : Hid (∀ W, Grown w8 W → Calls Try.prog 53 #[.slice AL' s.1.length cL', o.key.val] W fun e w' => ∃ v, e = .returned v ∧ ((clnTold w8 (dropK s.1 o.key)).S v ∧ (clnTold w8 (dropK s.1 o.key)).R v w') ∧ Grown W w') := Lib.hid (fun W hW => by
                  refine (without_any AL' cL' s.1 o.key W (by omega) ((HM8.out.live.below hW).rd)).mono ?_
                  rintro e w' ⟨A9, c9, rfl, ho9, hb9⟩
                  exact ⟨_, rfl, ⟨⟨A9, c9, rfl⟩, ho9.more hW.size⟩, hb9⟩)
                clear hkr ho7 HO7 HM7 HP7 HL7 HK7 HG8 z0 z1 z2 z3 z4 z5 z6 z7 z8 hbl7
                have hKp := Keeps.base w8
                refine wp_region_mixed [.pure, .pure, .pure, .pure, .held, .pure, .pure, .pure, .pure, .held, .make, .pure, .pure, .tail] (fun _ => clnTold w8 (dropK s.1 o.key)) (by kernel_rfl) (by kernel_rfl) ?_
                repeat (first | (refine mix_pure rfl rfl rfl (fun K hK => ?_); go_big_quiet_op; refine hK _ ?_; clear hK K) | (refine mix_held rfl rfl rfl (by assumption) (fun K hK => ?_); go_big_quiet_op; refine hK _ ?_; clear hK K))
                refine mix_load rfl rfl (by assumption) 41 (.tmp 134) rfl b (off + k * 9) rfl o.key.cells _ hbl8 HKR.out Try.underlying41 rfl (by kernel_rfl) ?_
                simp only [Act.put, List.setIfInBounds_toArray, List.set_cons_zero, List.set_cons_succ]
                refine mix_make rfl rfl (by assumption) clnTold_st (fun W hW => ?_) ?_
                · have HS2 := Lib.hid (HWO.out W hW)
                  go_simp
                  exact HS2.out
                rintro v ⟨Av, cv, rfl⟩ hKp2
                simp only [Act.put, List.setIfInBounds_toArray, List.set_cons_zero, List.set_cons_succ]
                repeat (first | (refine mix_pure rfl rfl rfl (fun K hK => ?_); go_big_quiet_op; refine hK _ ?_; clear hK K) | (refine mix_held rfl rfl rfl (by assumption) (fun K hK => ?_); go_big_quiet_op; refine hK _ ?_; clear hK K))
                refine mix_store1 rfl rfl 28 (.tmp 138) (.tmp 136) rfl gm 1 (.slice Av (dropK s.1 o.key).length cv) rfl rfl (fun W hW => Blk.there (HM8.out.blk.on hW.1) (by simp)) (by kernel_rfl) rfl rfl ?_
                refine mix_nil ?_
                rintro W' ⟨V, ⟨hV, hOv⟩, rfl⟩
                have hOv' : OwnL V w8.heap.size 43 9 (.slice Av (dropK s.1 o.key).length cv) Ev.cells (dropK s.1 o.key) := hOv
                have hMV := HM8.out.on hV
                have hgb := hMV.blk
                have HM9 : Hid (MgW (V.setCell ⟨gm, 1, none⟩ (.slice Av (dropK s.1 o.key).length cv)) gm most (dropK s.1 o.key) P com false Av cv Ap cp) := Lib.hid (hMV.put 1 _ (hOv'.more (Nat.zero_le _)) hMV.pages hMV.rows rfl)
                have HO9 := Lib.hid ((HO8.out.below hV).farG (hgb.apart (HO8.out.below hV) (by decide)) 1 (.slice Av (dropK s.1 o.key).length cv))
                have HL9 := Lib.hid ((HL8.out.below hV).farG (hgb.apart (HL8.out.below hV) (by decide)) 1 (.slice Av (dropK s.1 o.key).length cv))
                have HP9 := Lib.hid ((HP8.out.on hV).farG (show w.heap.size ≠ gm from HGM.out) 1 (.slice Av (dropK s.1 o.key).length cv))
                have HK9 := Lib.hid ((HK8.out.below hV).setCell (g := gm) (.inl (by simp)) 1 (.slice Av (dropK s.1 o.key).length cv))
                obtain ⟨w9, hw9⟩ : ∃ w9, V.setCell ⟨gm, 1, none⟩ (.slice Av (dropK s.1 o.key).length cv) = w9 := ⟨_, rfl⟩
                rw [hw9] at HM9 HO9 HL9 HP9 HK9 ⊢
                clear hw9 hV hOv hOv' hMV hgb hKp hKp2 HWO HKR HM8 HL8 HP8 HK8 HO8 lg8 c18 hbl8
                go_wp2_with fail
                go_roundw
                case rel => exact ⟨k + 1, by omega, by go_num, A8, n8, c8, Av, cv, rfl, Lib.hid (by rw [HSN.out, HDR.out]; exact HO9.out), Lib.hid (by rw [HSN.out, HDR.out]; exact HM9.out), HP9, HL9, HK9⟩
                case measure => simp [intOf]; omega
            · have HDR : Hid (dstep evs f s o = (dropK s.1 o.key, s.2 ++ [⟨3, o, 0, false⟩])) := Lib.hid (by rw [HDS.out, stays_no hat, if_neg (by decide)])
              have hqn : q = -1 := by rw [← HQ.out]; unfold atI; rw [if_neg hat]
              subst hqn
              clear hat hab HDS
              refine wp_region_mild (by kernel_rfl) (by kernel_rfl) ?_
              repeat (go_big_quiet_step (fail))
              refine wpQuiet_nil ?_
              intro w77 hw'
              obtain ⟨⟨wq, k77⟩, hw''⟩ := hw'
              subst hw''
              have HB77 := Lib.hid (bTrans HB7.out k77)
              clear v0 v1 v2 v3 v4 v5 v6 v7 v8 p07 p17 lp7 k77 HB7 hb7
              obtain ⟨w7, hw77⟩ : ∃ w, w77 = w := ⟨_, rfl⟩
              rw [hw77] at HB77 ⊢
              have HB7 := HB77
              clear hw77 HB77
              have HO7 := Lib.hid (HO.out.below HB7.out)
              have HM7 := Lib.hid (HM.out.on HB7.out)
              have HP7 := Lib.hid (HP.out.on HB7.out)
              have HL7 := Lib.hid (HL.out.below HB7.out)
              have HK7 := Lib.hid (HK.out.below HB7.out)
              have hws7 := HK7.out.size
              obtain ⟨hat7, hbl7⟩ := HAL.out w7 HL7.out
              obtain ⟨z0, z1, z2, z3, z4, z5, z6, z7, z8⟩ := hat7
              clear HO HM HP HL HK HB7
              go_upto_region 21 with (first | (at_builtin; refine wpList_app_cm rfl (.tmp 118) (.tmp 124) rfl w.heap.size _ s.2 [⟨3, o, 0, false⟩] (HO7.out.alloc _) rfl _ _ 1 1 rfl rfl (rd_cm1 _ ⟨3, o, 0, false⟩) (by simp only [List.length_cons, List.length_nil]; omega) (by simp; omega) ?_; intro A8 c8 n8 w8 hn8 ho8 hg8; have HO8 := Lib.hid ho8; have HG8 := Lib.hid hg8; clear ho8 hg8))
              have ho7 := HO7.out.alloc (.cells (Cm.cells ⟨3, o, 0, false⟩).toArray 57)
              have HM8 : Hid (MgW w8 gm most s.1 P com false AL' cL' Ap cp) := Lib.hid ((HM7.out.on (bAlloc (Below.refl _ _) _)).farR ho7 HG8.out (by decide) (by decide) (by decide))
              have HL8 : Hid (OwnL w8 0 43 9 (.slice (some ⟨b, off, none⟩) nS cL) Ev.cells S) := Lib.hid ((HL7.out.alloc _).keptR ho7 (by decide) HG8.out)
              have HP8 := Lib.hid ((HP7.out.alloc _).grown HG8.out ((HP7.out.alloc _).apart ho7 (by decide)))
              have HK8 : Hid (KeptX w w8 [gm]) := Lib.hid ((HK7.out.alloc _).grown HG8.out (fun r hr => .inr (ho7.base_le r hr)))
              obtain ⟨hkr, hbl8⟩ := HKY.out w8 HL8.out
              have HKR := Lib.hid hkr
              obtain ⟨lg8, -, c18, -, -, -⟩ := HM8.out.cells
              have HWO : Hid (∀ W, Grown w8 W → Calls Try.prog 53 #[.slice AL' s.1.length cL', o.key.val] W fun e w' => ∃ v, e = .returned v ∧ ((clnTold w8 (dropK s.1 o.key)).S v ∧ (clnTold w8 (dropK s.1 o.key)).R v w') ∧ Grown W w') := Lib.hid (fun W hW => by
                refine (without_any AL' cL' s.1 o.key W (by omega) ((HM8.out.live.below hW).rd)).mono ?_
                rintro e w' ⟨A9, c9, rfl, ho9, hb9⟩
                exact ⟨_, rfl, ⟨⟨A9, c9, rfl⟩, ho9.more hW.size⟩, hb9⟩)
              clear hkr ho7 HO7 HM7 HP7 HL7 HK7 HG8 z0 z1 z2 z3 z4 z5 z6 z7 z8 hbl7
              have hKp := Keeps.base w8
              refine wp_region_mixed [.pure, .pure, .pure, .pure, .held, .pure, .pure, .pure, .pure, .held, .make, .pure, .pure, .tail] (fun _ => clnTold w8 (dropK s.1 o.key)) (by kernel_rfl) (by kernel_rfl) ?_
              repeat (first | (refine mix_pure rfl rfl rfl (fun K hK => ?_); go_big_quiet_op; refine hK _ ?_; clear hK K) | (refine mix_held rfl rfl rfl (by assumption) (fun K hK => ?_); go_big_quiet_op; refine hK _ ?_; clear hK K))
              refine mix_load rfl rfl (by assumption) 41 (.tmp 134) rfl b (off + k * 9) rfl o.key.cells _ hbl8 HKR.out Try.underlying41 rfl (by kernel_rfl) ?_
              simp only [Act.put, List.setIfInBounds_toArray, List.set_cons_zero, List.set_cons_succ]
              refine mix_make rfl rfl (by assumption) clnTold_st (fun W hW => ?_) ?_
              · have HS2 := Lib.hid (HWO.out W hW)
                go_simp
                exact HS2.out
              rintro v ⟨Av, cv, rfl⟩ hKp2
              simp only [Act.put, List.setIfInBounds_toArray, List.set_cons_zero, List.set_cons_succ]
              repeat (first | (refine mix_pure rfl rfl rfl (fun K hK => ?_); go_big_quiet_op; refine hK _ ?_; clear hK K) | (refine mix_held rfl rfl rfl (by assumption) (fun K hK => ?_); go_big_quiet_op; refine hK _ ?_; clear hK K))
              refine mix_store1 rfl rfl 28 (.tmp 138) (.tmp 136) rfl gm 1 (.slice Av (dropK s.1 o.key).length cv) rfl rfl (fun W hW => Blk.there (HM8.out.blk.on hW.1) (by simp)) (by kernel_rfl) rfl rfl ?_
              refine mix_nil ?_
              rintro W' ⟨V, ⟨hV, hOv⟩, rfl⟩
              have hOv' : OwnL V w8.heap.size 43 9 (.slice Av (dropK s.1 o.key).length cv) Ev.cells (dropK s.1 o.key) := hOv
              have hMV := HM8.out.on hV
              have hgb := hMV.blk
              have HM9 : Hid (MgW (V.setCell ⟨gm, 1, none⟩ (.slice Av (dropK s.1 o.key).length cv)) gm most (dropK s.1 o.key) P com false Av cv Ap cp) := Lib.hid (hMV.put 1 _ (hOv'.more (Nat.zero_le _)) hMV.pages hMV.rows rfl)
              have HO9 := Lib.hid ((HO8.out.below hV).farG (hgb.apart (HO8.out.below hV) (by decide)) 1 (.slice Av (dropK s.1 o.key).length cv))
              have HL9 := Lib.hid ((HL8.out.below hV).farG (hgb.apart (HL8.out.below hV) (by decide)) 1 (.slice Av (dropK s.1 o.key).length cv))
              have HP9 := Lib.hid ((HP8.out.on hV).farG (show w.heap.size ≠ gm from HGM.out) 1 (.slice Av (dropK s.1 o.key).length cv))
              have HK9 := Lib.hid ((HK8.out.below hV).setCell (g := gm) (.inl (by simp)) 1 (.slice Av (dropK s.1 o.key).length cv))
              obtain ⟨w9, hw9⟩ : ∃ w9, V.setCell ⟨gm, 1, none⟩ (.slice Av (dropK s.1 o.key).length cv) = w9 := ⟨_, rfl⟩
              rw [hw9] at HM9 HO9 HL9 HP9 HK9 ⊢
              clear hw9 hV hOv hOv' hMV hgb hKp hKp2 HWO HKR HM8 HL8 HP8 HK8 HO8 lg8 c18 hbl8
              go_wp2_with fail
              go_roundw
              case rel => exact ⟨k + 1, by omega, by go_num, A8, n8, c8, Av, cv, rfl, Lib.hid (by rw [HSN.out, HDR.out]; exact HO9.out), Lib.hid (by rw [HSN.out, HDR.out]; exact HM9.out), HP9, HL9, HK9⟩
              case measure => simp [intOf]; omega
          · have hbf : (o.frame != f) = true := by simp [hof]
            have HDS : Hid (dstep evs f s o = s) := Lib.hid (by unfold dstep; rw [if_neg hof])
            clear hof
            go_upto_region 17 with fail
            refine wp_region_mild (by kernel_rfl) (by kernel_rfl) ?_
            repeat (go_big_quiet_step (fail))
            refine wpQuiet_nil ?_
            intro w6 hw'
            obtain ⟨⟨wq, k6⟩, hw''⟩ := hw'
            subst hw''
            go_wp2
            go_roundw
            case rel => exact ⟨k + 1, by omega, by go_num, A', n', c', AL', cL', rfl, Lib.hid (by rw [HSN.out, HDS.out]; exact HO.out.below k6), Lib.hid (by rw [HSN.out, HDS.out]; exact HM.out.on k6), Lib.hid (HP.out.on k6), Lib.hid (HL.out.below k6), Lib.hid (HK.out.below k6)⟩
            case measure => simp [intOf]; omega
        · obtain rfl : nS = k := by omega
          rw [List.take_of_length_le (by rw [HNS.out]; exact Nat.le_refl _)] at HO HM
          obtain ⟨hq1, hq2, hq3⟩ := dstep_ok (evs := evs) (f := f) S (S, []) HS.out
          have hs4 : ((S, []) : Sc).2.length = 0 := rfl
          have hs5 : ((S, []) : Sc).1.length = S.length := rfl
          rw [hs4, HNS.out] at hq3
          rw [hs5, HNS.out] at hq2
          obtain ⟨s0, hs0⟩ : ∃ s0, S.foldl (dstep evs f) (S, []) = s0 := ⟨_, rfl⟩
          rw [hs0] at HO HM HX hq1 hq2 hq3
          have HQ1 := Lib.hid hq1
          clear hs0 hs4 hs5 hq1 HL HNS HS
          go_wp2_with fail
          go_loopw [9, 13] (fun u v wr => ∃ k : Nat, k ≤ n ∧ v = .int .i64 k ∧ ∃ A' n' c' AL' cL', u = .slice A' n' c' ∧ Hid (OwnL wr w.heap.size 57 12 (.slice A' n' c') Cm.cells ((evs.take k).foldl (startS most now) s0).2) ∧ Hid (MgW wr gm most ((evs.take k).foldl (startS most now) s0).1 P com false AL' cL' Ap cp) ∧ Hid (Blk wr w.heap.size 30 #[.int .i64 f, .slice A n c]) ∧ Hid (KeptX w wr [gm])) (fun _ v _ => n - (intOf v).toNat)
          case atStart => exact ⟨0, Nat.zero_le _, rfl, A', n', c', AL', cL', rfl, HO, HM, HP, HK⟩
          case round =>
            clear HO HM HP HK p0 p1 lp hws
            obtain ⟨k, hk, rfl, A', n', c', AL', cL', rfl, HO, HM, HP, HK⟩ := hrel
            have hws := HK.out.size
            have p0 := HP.out.cell 0
            have p1 := HP.out.cell 1
            have lp := HP.out.lt
            simp only [List.getElem?_toArray, List.getElem?_cons_zero, List.getElem?_cons_succ] at p0 p1
            by_cases hlt : k < n
            · have hkE : k < evs.length := by rw [HN.out]; exact hlt
              obtain ⟨b, off, hA, hbl, x0, x1, x2, x3, x4, x5, x6, x7, x8⟩ := (HRE.out wr HK.out).ev hkE
              subst hA
              have hbw : b < wr.heap.size := Nat.lt_of_lt_of_le hbl hws
              have HSN := Lib.hid (foldl_snoc (startS most now) s0 evs k hkE)
              obtain ⟨hs1, hs2, hs3⟩ := start_fold most now (evs.take k) s0 HQ1.out (fun e he => (HOK.out e (List.mem_of_mem_take he)).1)
              have hs6 : (evs.take k).length ≤ k := by rw [List.length_take]; omega
              have hxk := HOK.out evs[k] (List.getElem_mem hkE)
              obtain ⟨x, hx⟩ : ∃ x, evs[k] = x := ⟨_, rfl⟩
              obtain ⟨s, hs⟩ : ∃ s, (evs.take k).foldl (startS most now) s0 = s := ⟨_, rfl⟩
              rw [hx] at x0 x1 x2 x3 x4 x5 x6 x7 x8 HSN hxk
              rw [hs] at HSN hs1 hs2 hs3 HO HM
              have HS1 := Lib.hid hs1
              have HXF := Lib.hid hxk.2
              have HXO := Lib.hid hxk.1
              clear hx hs hs1 hxk hkE hbl
              go_upto_region 26 with fail
              obtain ⟨w3, hw3⟩ : ∃ w3, w3 = wr.alloc (.cells #[.int .i64 x.frame, .int .i64 x.emitter, .int .i64 x.kind, .int .i64 x.ord, .int .i64 x.asset, .int .i64 x.gain, .int .i64 x.pan, .int .i64 x.prio, .int .i64 x.len] 43) := ⟨_, rfl⟩
              have HE3 : Hid (Blk w3 wr.heap.size 43 #[.int .i64 x.frame, .int .i64 x.emitter, .int .i64 x.kind, .int .i64 x.ord, .int .i64 x.asset, .int .i64 x.gain, .int .i64 x.pan, .int .i64 x.prio, .int .i64 x.len]) := Lib.hid (by rw [hw3]; exact Blk.new _ _ _)
              have HB3 : Hid (Below wr.heap.size wr w3) := Lib.hid (by rw [hw3]; exact bAlloc (Below.refl _ _) _)
              rw [← hw3]
              clear hw3 x0 x1 x2 x3 x4 x5 x6 x7 x8 hbw p0 p1 lp
              have HO3 := Lib.hid (HO.out.below HB3.out)
              have HM3 := Lib.hid (HM.out.on HB3.out)
              have HP3 := Lib.hid (HP.out.on HB3.out)
              have HK3 := Lib.hid (HK.out.below HB3.out)
              clear HO HM HP HK HB3
              obtain ⟨gE, hgE⟩ : ∃ gE, wr.heap.size = gE := ⟨_, rfl⟩
              rw [hgE] at HE3 ⊢
              clear hgE
              obtain ⟨e0, e1, e2, e3, e4, e5, e6, e7, e8⟩ := Blk.ev HE3.out
              have lE := HE3.out.lt
              obtain ⟨lg, c0, c1, -, -, -⟩ := HM3.out.cells
              have HAT : Hid (∀ W, Below w3.heap.size w3 W → Calls Try.prog 52 #[.slice AL' s.1.length cL', x.key.val] W fun e w' => e = .returned (.int .i64 (atI s.1 x.key)) ∧ Below W.heap.size W w') := Lib.hid (fun W hW => rat_any AL' cL' s.1 x.key W (by omega) ((HM3.out.live.below hW).rd))
              obtain ⟨q, hq⟩ : ∃ q, atI s.1 x.key = q := ⟨_, rfl⟩
              have HQ := Lib.hid hq
              have hab := atI_bd s.1 x.key
              rw [hq] at HAT hab
              unfold Key4.val at HAT
              clear hq
              refine wp_region_mild (by kernel_rfl) (by kernel_rfl) ?_
              repeat (go_big_quiet_step ((go_at_call 52; exact mild_of (HAT.out _ (Ext.below _)))))
              refine wpQuiet_nil ?_
              intro w4 hw'
              obtain ⟨⟨wq, k4⟩, hw''⟩ := hw'
              subst hw''
              have HO4 := Lib.hid (HO3.out.below k4)
              have HM4 := Lib.hid (HM3.out.on k4)
              have HP4 := Lib.hid (HP3.out.on k4)
              have HK4 := Lib.hid (HK3.out.below k4)
              have HE4 := Lib.hid (HE3.out.on k4)
              clear e0 e1 e2 e3 e4 e5 e6 e7 e8 lE lg c0 c1 HO3 HM3 HP3 HK3 HE3 HAT k4
              by_cases hat : atN s.1 x.key < s.1.length
              · obtain ⟨j, hj⟩ : ∃ j, atN s.1 x.key = j := ⟨_, rfl⟩
                have hst := start_at (most := most) (now := now) HS1.out.1 hat
                have hqj : q = (atN s.1 x.key : Int) := by rw [← HQ.out]; unfold atI; rw [if_pos hat]
                simp only [hj] at hat hst hqj
                obtain ⟨bL, offL, hAL, hbL, hzr⟩ := HM4.out.live.rd.evr hat
                obtain ⟨z, hz⟩ : ∃ z, s.1[j]'hat = z := ⟨_, rfl⟩
                rw [hz] at hst hzr
                subst hAL
                subst hqj
                have hj0 : decide ((j : Int) < 0) = false := decide_eq_false (by omega)
                have hj1 : decide (0 ≤ (j : Int)) = true := decide_eq_true (by omega)
                have HZR := Lib.hid hzr
                have HST := Lib.hid hst
                have HEE : Hid (w4.rangeAt gE 0 x.cells) := Lib.hid (fun i v hv => by
                  rw [Nat.zero_add, HE4.out.cell i]
                  have : (#[.int .i64 x.frame, .int .i64 x.emitter, .int .i64 x.kind, .int .i64 x.ord, .int .i64 x.asset, .int .i64 x.gain, .int .i64 x.pan, .int .i64 x.prio, .int .i64 x.len] : Array Value) = x.cells.toArray := rfl
                  rw [this, List.getElem?_toArray]; exact hv)
                have lE4 := HE4.out.lt
                obtain ⟨lg4, -, c14, -, -, -⟩ := HM4.out.cells
                clear hz hj hab HQ hzr hst
                go_upto_region 27 with fail
                by_cases hzx : z = x
                · have HST2 : Hid (startS most now s x = s) := Lib.hid (by rw [HST.out, if_pos hzx])
                  have HDX : Hid ((!decide (z = x)) = false) := Lib.hid (by rw [decide_eq_true hzx]; rfl)
                  clear hzx HST
                  refine wp_region_mild (by kernel_rfl) (by kernel_rfl) ?_
                  repeat (go_big_quiet_step (fail))
                  refine wpQuiet_load_mild rfl 43 (.tmp 166) rfl bL (offL + j * 9) rfl z.cells _ hbL HZR.out Try.underlying43 rfl (by kernel_rfl) ?_
                  simp only [Act.put, List.setIfInBounds_toArray, List.set_cons_zero, List.set_cons_succ]
                  repeat (go_big_quiet_step (fail))
                  refine wpQuiet_load_mild rfl 43 (.tmp 14) rfl gE 0 rfl x.cells _ lE4 HEE.out Try.underlying43 rfl (by kernel_rfl) ?_
                  simp only [Act.put, List.setIfInBounds_toArray, List.set_cons_zero, List.set_cons_succ]
                  refine wpQuiet_runs_mild (.bool false) rfl (fun V => by rw [← HDX.out]; exact runs_neq rfl rfl rfl (by kernel_rfl) (ev_neq z x) V) ?_
                  simp only [Act.put, List.setIfInBounds_toArray, List.set_cons_zero, List.set_cons_succ]
                  repeat (go_big_quiet_step (fail))
                  refine wpQuiet_nil ?_
                  intro w5 hw'
                  obtain ⟨⟨wq, k5⟩, hw''⟩ := hw'
                  subst hw''
                  go_upto_region 30 with fail
                  refine wp_region_mild (by kernel_rfl) (by kernel_rfl) ?_
                  repeat (go_big_quiet_step (fail))
                  refine wpQuiet_nil ?_
                  intro w6 hw'
                  obtain ⟨⟨wq, k6⟩, hw''⟩ := hw'
                  subst hw''
                  have k46 := bTrans k5 k6
                  go_wp2
                  go_roundw
                  case rel => exact ⟨k + 1, by omega, by go_num, A', n', c', _, cL', rfl, Lib.hid (by rw [HSN.out, HST2.out]; exact HO4.out.below k46), Lib.hid (by rw [HSN.out, HST2.out]; exact HM4.out.on k46), Lib.hid (HP4.out.on k46), Lib.hid (HK4.out.below k46)⟩
                  case measure => simp [intOf]; omega
                · have HST2 : Hid (startS most now s x = (putE (dropK s.1 x.key) x, s.2 ++ [⟨2, x, 0, false⟩])) := Lib.hid (by rw [HST.out, if_neg hzx])
                  have HDX : Hid ((!decide (z = x)) = true) := Lib.hid (by rw [decide_eq_false hzx]; rfl)
                  clear hzx HST
                  refine wp_region_mild (by kernel_rfl) (by kernel_rfl) ?_
                  repeat (go_big_quiet_step (fail))
                  refine wpQuiet_load_mild rfl 43 (.tmp 166) rfl bL (offL + j * 9) rfl z.cells _ hbL HZR.out Try.underlying43 rfl (by kernel_rfl) ?_
                  simp only [Act.put, List.setIfInBounds_toArray, List.set_cons_zero, List.set_cons_succ]
                  repeat (go_big_quiet_step (fail))
                  refine wpQuiet_load_mild rfl 43 (.tmp 14) rfl gE 0 rfl x.cells _ lE4 HEE.out Try.underlying43 rfl (by kernel_rfl) ?_
                  simp only [Act.put, List.setIfInBounds_toArray, List.set_cons_zero, List.set_cons_succ]
                  refine wpQuiet_runs_mild (.bool true) rfl (fun V => by rw [← HDX.out]; exact runs_neq rfl rfl rfl (by kernel_rfl) (ev_neq z x) V) ?_
                  simp only [Act.put, List.setIfInBounds_toArray, List.set_cons_zero, List.set_cons_succ]
                  repeat (go_big_quiet_step (fail))
                  refine wpQuiet_nil ?_
                  intro w6 hw'
                  obtain ⟨⟨wq, k46⟩, hw''⟩ := hw'
                  subst hw''
                  have HO6 := Lib.hid (HO4.out.below k46)
                  have HM6 := Lib.hid (HM4.out.on k46)
                  have HP6 := Lib.hid (HP4.out.on k46)
                  have HK6 := Lib.hid (HK4.out.below k46)
                  have HE6 := Lib.hid (HE4.out.on k46)
                  have hws6 := HK6.out.size
                  clear k46 lg4 c14 lE4 HEE HZR HDX hbL HO4 HM4 HP4 HK4 HE4
                  obtain ⟨e0, e1, e2, e3, e4, e5, e6, e7, e8⟩ := Blk.ev HE6.out
                  have lE := HE6.out.lt
                  go_upto_region 29 with (first | (at_builtin; refine wpList_app_cm rfl (.tmp 171) (.tmp 174) rfl w.heap.size _ s.2 [⟨2, x, 0, false⟩] (HO6.out.alloc _) rfl _ _ 1 1 rfl rfl (rd_cm1 _ ⟨2, x, 0, false⟩) (by simp only [List.length_cons, List.length_nil]; omega) (by simp; omega) ?_; intro A8 c8 n8 w8 hn8 ho8 hg8; have HO8 := Lib.hid ho8; have HG8 := Lib.hid hg8; clear ho8 hg8))
                  have ho7 := HO6.out.alloc (.cells (Cm.cells ⟨2, x, 0, false⟩).toArray 57)
                  have HM8 : Hid (MgW w8 gm most s.1 P com false (some ⟨bL, offL, none⟩) cL' Ap cp) := Lib.hid ((HM6.out.on (bAlloc (Below.refl _ _) _)).farR ho7 HG8.out (by decide) (by decide) (by decide))
                  have HE8 := Lib.hid ((HE6.out.alloc _).grown HG8.out ((HE6.out.alloc _).apart ho7 (by decide)))
                  have HP8 := Lib.hid ((HP6.out.alloc _).grown HG8.out ((HP6.out.alloc _).apart ho7 (by decide)))
                  have HK8 : Hid (KeptX w w8 [gm]) := Lib.hid ((HK6.out.alloc _).grown HG8.out (fun r hr => .inr (ho7.base_le r hr)))
                  obtain ⟨lg8, -, c18, -, -, -⟩ := HM8.out.cells
                  have lE8 := HE8.out.lt
                  have HEE : Hid (w8.rangeAt gE 0 x.cells) := Lib.hid (fun i v hv => by
                    rw [Nat.zero_add, HE8.out.cell i]
                    have : (#[.int .i64 x.frame, .int .i64 x.emitter, .int .i64 x.kind, .int .i64 x.ord, .int .i64 x.asset, .int .i64 x.gain, .int .i64 x.pan, .int .i64 x.prio, .int .i64 x.len] : Array Value) = x.cells.toArray := rfl
                    rw [this, List.getElem?_toArray]; exact hv)
                  have HKR : Hid (w8.rangeAt gE 0 x.key.cells) := Lib.hid (fun i v hv => by
                    have h4 : i < 4 := by
                      have := (List.getElem?_eq_some_iff.1 hv).1
                      simpa [Key4.cells] using this
                    rw [Nat.zero_add, HE8.out.cell i]
                    obtain rfl | rfl | rfl | rfl : i = 0 ∨ i = 1 ∨ i = 2 ∨ i = 3 := by omega
                    all_goals exact hv)
                  have HWO : Hid (∀ W, Grown w8 W → Calls Try.prog 53 #[.slice (some ⟨bL, offL, none⟩) s.1.length cL', x.key.val] W fun e w' => ∃ v, e = .returned v ∧ ((clnTold w8 (dropK s.1 x.key)).S v ∧ (clnTold w8 (dropK s.1 x.key)).R v w') ∧ Grown W w') := Lib.hid (fun W hW => by
                    refine (without_any (some ⟨bL, offL, none⟩) cL' s.1 x.key W (by omega) ((HM8.out.live.below hW).rd)).mono ?_
                    rintro e w' ⟨A9, c9, rfl, ho9, hb9⟩
                    exact ⟨_, rfl, ⟨⟨A9, c9, rfl⟩, ho9.more hW.size⟩, hb9⟩)
                  have hdl : (dropK s.1 x.key).length ≤ s.1.length := List.length_filter_le _ _
                  have HPU : Hid (∀ Av cv W, Below w8.heap.size w8 W → OwnL W w8.heap.size 43 9 (.slice Av (dropK s.1 x.key).length cv) Ev.cells (dropK s.1 x.key) → Calls Try.prog 54 #[.slice Av (dropK s.1 x.key).length cv, x.val] W fun e w' => ∃ v, e = .returned v ∧ (∃ A c, v = .slice A (putE (dropK s.1 x.key) x).length c) ∧ Below w8.heap.size w8 w' ∧ OwnL w' w8.heap.size 43 9 v Ev.cells (putE (dropK s.1 x.key) x)) := Lib.hid (fun Av cv W hW hO => by
                    refine (r11Put_any Av cv (dropK s.1 x.key) x W (by omega) hO.rd).mono ?_
                    rintro e w' ⟨A9, c9, n9, rfl, ho9, hb9⟩
                    have hn9 := ho9.len
                    subst hn9
                    exact ⟨_, rfl, ⟨A9, c9, rfl⟩, bTrans hW hb9, ho9.more hW.size⟩)
                  clear hdl ho7 HO6 HM6 HP6 HK6 HE6 HG8 e0 e1 e2 e3 e4 e5 e6 e7 e8 lE
                  have hKp := Keeps.base w8
                  refine wp_region_mixedT [.pure, .pure, .pure, .pure, .held, .pure, .held, .make, .held, .tail, .pure, .pure, .tail] (fun _ => clnTold w8 (dropK s.1 x.key)) (by kernel_rfl) (by kernel_rfl) ?_
                  repeat (first | (refine mix_pure rfl rfl rfl (fun K hK => ?_); go_big_quiet_op; refine hK _ ?_; clear hK K) | (refine mix_held rfl rfl rfl (by assumption) (fun K hK => ?_); go_big_quiet_op; refine hK _ ?_; clear hK K))
                  refine mix_load rfl rfl (by assumption) 41 (.tmp 181) rfl gE 0 rfl x.key.cells _ lE8 HKR.out Try.underlying41 rfl (by kernel_rfl) ?_
                  simp only [Act.put, List.setIfInBounds_toArray, List.set_cons_zero, List.set_cons_succ]
                  refine mix_make rfl rfl (by assumption) clnTold_st (fun W hW => ?_) ?_
                  · have HS2 := Lib.hid (HWO.out W hW)
                    go_simp
                    exact HS2.out
                  rintro v ⟨Av, cv, rfl⟩ hKp2
                  simp only [Act.put, List.setIfInBounds_toArray, List.set_cons_zero, List.set_cons_succ]
                  refine mix_load rfl rfl (by assumption) 43 (.tmp 14) rfl gE 0 rfl x.cells _ lE8 HEE.out Try.underlying43 rfl (by kernel_rfl) ?_
                  simp only [Act.put, List.setIfInBounds_toArray, List.set_cons_zero, List.set_cons_succ]
                  refine mix_tailC rfl rfl (fun v => ∃ A c, v = .slice A (putE (dropK s.1 x.key) x).length c) (fun v W => Below w8.heap.size w8 W ∧ OwnL W w8.heap.size 43 9 v Ev.cells (putE (dropK s.1 x.key) x)) (fun W hW => ?_) ?_
                  · have HS2 := Lib.hid (HPU.out Av cv W hW.1 hW.2)
                    go_simp
                    exact HS2.out
                  rintro v2 ⟨A2, c2, rfl⟩
                  simp only [Act.put, List.setIfInBounds_toArray, List.set_cons_zero, List.set_cons_succ]
                  repeat (first | (refine mix_pure rfl rfl rfl (fun K hK => ?_); go_big_quiet_op; refine hK _ ?_; clear hK K) | (refine mix_held rfl rfl rfl (by assumption) (fun K hK => ?_); go_big_quiet_op; refine hK _ ?_; clear hK K))
                  refine mix_store1 rfl rfl 28 (.tmp 187) (.tmp 185) rfl gm 1 (.slice A2 (putE (dropK s.1 x.key) x).length c2) rfl rfl (fun W hW => Blk.there (HM8.out.blk.on hW.1) (by simp)) (by kernel_rfl) rfl rfl ?_
                  simp only [Act.put, List.setIfInBounds_toArray, List.set_cons_zero, List.set_cons_succ]
                  refine mix_nil ?_
                  rintro W' ⟨V, ⟨hV, hOv⟩, rfl⟩
                  have hMV := HM8.out.on hV
                  have hgb := hMV.blk
                  have HM9 : Hid (MgW (V.setCell ⟨gm, 1, none⟩ (.slice A2 (putE (dropK s.1 x.key) x).length c2)) gm most (putE (dropK s.1 x.key) x) P com false A2 c2 Ap cp) := Lib.hid (hMV.put 1 _ (hOv.more (Nat.zero_le _)) hMV.pages hMV.rows rfl)
                  have HO9 := Lib.hid ((HO8.out.below hV).farG (hgb.apart (HO8.out.below hV) (by decide)) 1 (.slice A2 (putE (dropK s.1 x.key) x).length c2))
                  have HP9 := Lib.hid ((HP8.out.on hV).farG (show w.heap.size ≠ gm from HGM.out) 1 (.slice A2 (putE (dropK s.1 x.key) x).length c2))
                  have HK9 := Lib.hid ((HK8.out.below hV).setCell (g := gm) (.inl (by simp)) 1 (.slice A2 (putE (dropK s.1 x.key) x).length c2))
                  obtain ⟨w9, hw9⟩ : ∃ w9, V.setCell ⟨gm, 1, none⟩ (.slice A2 (putE (dropK s.1 x.key) x).length c2) = w9 := ⟨_, rfl⟩
                  rw [hw9] at HM9 HO9 HP9 HK9 ⊢
                  clear hw9 hV hOv hMV hgb hKp hKp2 HPU HWO HKR HEE HM8 HP8 HK8 HO8 HE8 lg8 c18 lE8
                  go_upto_region 30 with fail
                  refine wp_region_mild (by kernel_rfl) (by kernel_rfl) ?_
                  repeat (go_big_quiet_step (fail))
                  refine wpQuiet_nil ?_
                  intro w10 hw'
                  obtain ⟨⟨wq, k10⟩, hw''⟩ := hw'
                  subst hw''
                  go_wp2
                  go_roundw
                  case rel => exact ⟨k + 1, by omega, by go_num, A8, n8, c8, A2, c2, rfl, Lib.hid (by rw [HSN.out, HST2.out]; exact HO9.out.below k10), Lib.hid (by rw [HSN.out, HST2.out]; exact HM9.out.on k10), Lib.hid (HP9.out.on k10), Lib.hid (HK9.out.below k10)⟩
                  case measure => simp [intOf]; omega
              · have HST := Lib.hid (start_no (most := most) (now := now) hat)
                have hqn : q = -1 := by rw [← HQ.out]; unfold atI; rw [if_neg hat]
                subst hqn
                clear hat hab HQ
                go_upto_region 27 with fail
                refine wp_region_mild (by kernel_rfl) (by kernel_rfl) ?_
                repeat (go_big_quiet_step (fail))
                refine wpQuiet_nil ?_
                intro w5 hw'
                obtain ⟨⟨wq, k5⟩, hw''⟩ := hw'
                subst hw''
                have HM5 := Lib.hid (HM4.out.on k5)
                obtain ⟨lg5, c05, c15, -, -, -⟩ := HM5.out.cells
                go_upto_region 30 with fail
                by_cases hroom : (s.1.length : Int) < most
                · have hrd : decide ((s.1.length : Int) < most) = true := decide_eq_true hroom
                  have HST2 : Hid (startS most now s x = (putE s.1 x, s.2 ++ [⟨1, x, now - f, false⟩])) := Lib.hid (by rw [HST.out, if_pos hroom, HXF.out])
                  clear hroom
                  have hf0 : 0 ≤ f := by
                    have h1 := (evOk_frame HXO.out).1
                    have h2 := HXF.out
                    omega
                  have hn1 : 0 ≤ now - f := by omega
                  have hn2 : now - f ≤ 1073741824 := by omega
                  refine wp_region_mild (by kernel_rfl) (by kernel_rfl) ?_
                  repeat (go_big_quiet_step (fail))
                  refine wpQuiet_nil ?_
                  intro w6 hw'
                  obtain ⟨⟨wq, k6⟩, hw''⟩ := hw'
                  subst hw''
                  have k46 := bTrans k5 k6
                  have HO6 := Lib.hid (HO4.out.below k46)
                  have HM6 := Lib.hid (HM4.out.on k46)
                  have HP6 := Lib.hid (HP4.out.on k46)
                  have HK6 := Lib.hid (HK4.out.below k46)
                  have HE6 := Lib.hid (HE4.out.on k46)
                  have hws6 := HK6.out.size
                  clear k5 k6 k46 HM5 lg5 c05 c15 HO4 HM4 HP4 HK4 HE4 hrd
                  obtain ⟨e0, e1, e2, e3, e4, e5, e6, e7, e8⟩ := Blk.ev HE6.out
                  have lE := HE6.out.lt
                  have p0 := HP6.out.cell 0
                  have lp := HP6.out.lt
                  simp only [List.getElem?_toArray, List.getElem?_cons_zero, List.getElem?_cons_succ] at p0
                  go_upto_region 32 with (first | (at_builtin; refine wpList_app_cm rfl (.tmp 202) (.tmp 209) rfl w.heap.size _ s.2 [⟨1, x, now - f, false⟩] (HO6.out.alloc _) rfl _ _ 1 1 rfl rfl (rd_cm1 _ ⟨1, x, now - f, false⟩) (by simp only [List.length_cons, List.length_nil]; omega) (by simp; omega) ?_; intro A8 c8 n8 w8 hn8 ho8 hg8; have HO8 := Lib.hid ho8; have HG8 := Lib.hid hg8; clear ho8 hg8))
                  have ho7 := HO6.out.alloc (.cells (Cm.cells ⟨1, x, now - f, false⟩).toArray 57)
                  have HM8 : Hid (MgW w8 gm most s.1 P com false AL' cL' Ap cp) := Lib.hid ((HM6.out.on (bAlloc (Below.refl _ _) _)).farR ho7 HG8.out (by decide) (by decide) (by decide))
                  have HE8 := Lib.hid ((HE6.out.alloc _).grown HG8.out ((HE6.out.alloc _).apart ho7 (by decide)))
                  have HP8 := Lib.hid ((HP6.out.alloc _).grown HG8.out ((HP6.out.alloc _).apart ho7 (by decide)))
                  have HK8 : Hid (KeptX w w8 [gm]) := Lib.hid ((HK6.out.alloc _).grown HG8.out (fun r hr => .inr (ho7.base_le r hr)))
                  obtain ⟨lg8, -, c18, -, -, -⟩ := HM8.out.cells
                  have lE8 := HE8.out.lt
                  have HEE : Hid (w8.rangeAt gE 0 x.cells) := Lib.hid (fun j v hv => by
                    rw [Nat.zero_add, HE8.out.cell j]
                    have : (#[.int .i64 x.frame, .int .i64 x.emitter, .int .i64 x.kind, .int .i64 x.ord, .int .i64 x.asset, .int .i64 x.gain, .int .i64 x.pan, .int .i64 x.prio, .int .i64 x.len] : Array Value) = x.cells.toArray := rfl
                    rw [this, List.getElem?_toArray]; exact hv)
                  have HPU : Hid (∀ W, Grown w8 W → Calls Try.prog 54 #[.slice AL' s.1.length cL', x.val] W fun e w' => ∃ v, e = .returned v ∧ ((clnTold w8 (putE s.1 x)).S v ∧ (clnTold w8 (putE s.1 x)).R v w') ∧ Grown W w') := Lib.hid (fun W hW => by
                    refine (r11Put_any AL' cL' s.1 x W (by omega) ((HM8.out.live.below hW).rd)).mono ?_
                    rintro e w' ⟨A9, c9, n9, rfl, ho9, hb9⟩
                    have hn9 := ho9.len
                    subst hn9
                    exact ⟨_, rfl, ⟨⟨A9, c9, rfl⟩, ho9.more hW.size⟩, hb9⟩)
                  clear ho7 HO6 HM6 HP6 HK6 HE6 HG8 e0 e1 e2 e3 e4 e5 e6 e7 e8 lE p0 lp
                  have hKp := Keeps.base w8
                  refine wp_region_mixed [.pure, .pure, .pure, .pure, .held, .held, .make, .pure, .pure, .tail] (fun _ => clnTold w8 (putE s.1 x)) (by kernel_rfl) (by kernel_rfl) ?_
                  repeat (first | (refine mix_pure rfl rfl rfl (fun K hK => ?_); go_big_quiet_op; refine hK _ ?_; clear hK K) | (refine mix_held rfl rfl rfl (by assumption) (fun K hK => ?_); go_big_quiet_op; refine hK _ ?_; clear hK K))
                  refine mix_load rfl rfl (by assumption) 43 (.tmp 14) rfl gE 0 rfl x.cells _ lE8 HEE.out Try.underlying43 rfl (by kernel_rfl) ?_
                  simp only [Act.put, List.setIfInBounds_toArray, List.set_cons_zero, List.set_cons_succ]
                  refine mix_make rfl rfl (by assumption) clnTold_st (fun W hW => ?_) ?_
                  · have HS2 := Lib.hid (HPU.out W hW)
                    go_simp
                    exact HS2.out
                  rintro v ⟨Av, cv, rfl⟩ hKp2
                  simp only [Act.put, List.setIfInBounds_toArray, List.set_cons_zero, List.set_cons_succ]
                  repeat (first | (refine mix_pure rfl rfl rfl (fun K hK => ?_); go_big_quiet_op; refine hK _ ?_; clear hK K) | (refine mix_held rfl rfl rfl (by assumption) (fun K hK => ?_); go_big_quiet_op; refine hK _ ?_; clear hK K))
                  refine mix_store1 rfl rfl 28 (.tmp 219) (.tmp 217) rfl gm 1 (.slice Av (putE s.1 x).length cv) rfl rfl (fun W hW => Blk.there (HM8.out.blk.on hW.1) (by simp)) (by kernel_rfl) rfl rfl ?_
                  refine mix_nil ?_
                  rintro W' ⟨V, ⟨hV, hOv⟩, rfl⟩
                  have hOv' : OwnL V w8.heap.size 43 9 (.slice Av (putE s.1 x).length cv) Ev.cells (putE s.1 x) := hOv
                  have hMV := HM8.out.on hV
                  have hgb := hMV.blk
                  have HM9 : Hid (MgW (V.setCell ⟨gm, 1, none⟩ (.slice Av (putE s.1 x).length cv)) gm most (putE s.1 x) P com false Av cv Ap cp) := Lib.hid (hMV.put 1 _ (hOv'.more (Nat.zero_le _)) hMV.pages hMV.rows rfl)
                  have HO9 := Lib.hid ((HO8.out.below hV).farG (hgb.apart (HO8.out.below hV) (by decide)) 1 (.slice Av (putE s.1 x).length cv))
                  have HP9 := Lib.hid ((HP8.out.on hV).farG (show w.heap.size ≠ gm from HGM.out) 1 (.slice Av (putE s.1 x).length cv))
                  have HK9 := Lib.hid ((HK8.out.below hV).setCell (g := gm) (.inl (by simp)) 1 (.slice Av (putE s.1 x).length cv))
                  obtain ⟨w9, hw9⟩ : ∃ w9, V.setCell ⟨gm, 1, none⟩ (.slice Av (putE s.1 x).length cv) = w9 := ⟨_, rfl⟩
                  rw [hw9] at HM9 HO9 HP9 HK9 ⊢
                  clear hw9 hV hOv hOv' hMV hgb hKp hKp2 HPU HEE HM8 HP8 HK8 HO8 HE8 lg8 c18 lE8
                  go_wp2_with fail
                  go_roundw
                  case rel => exact ⟨k + 1, by omega, by go_num, A8, n8, c8, Av, cv, rfl, Lib.hid (by rw [HSN.out, HST2.out]; exact HO9.out), Lib.hid (by rw [HSN.out, HST2.out]; exact HM9.out), HP9, HK9⟩
                  case measure => simp [intOf]; omega
                · have hrd : decide ((s.1.length : Int) < most) = false := decide_eq_false hroom
                  have HST2 : Hid (startS most now s x = s) := Lib.hid (by rw [HST.out, if_neg hroom])
                  clear hroom
                  refine wp_region_mild (by kernel_rfl) (by kernel_rfl) ?_
                  repeat (go_big_quiet_step (fail))
                  refine wpQuiet_nil ?_
                  intro w6 hw'
                  obtain ⟨⟨wq, k6⟩, hw''⟩ := hw'
                  subst hw''
                  have k46 := bTrans k5 k6
                  go_wp2
                  go_roundw
                  case rel => exact ⟨k + 1, by omega, by go_num, A', n', c', AL', cL', rfl, Lib.hid (by rw [HSN.out, HST2.out]; exact HO4.out.below k46), Lib.hid (by rw [HSN.out, HST2.out]; exact HM4.out.on k46), Lib.hid (HP4.out.on k46), Lib.hid (HK4.out.below k46)⟩
                  case measure => simp [intOf]; omega
            · obtain rfl : n = k := by omega
              rw [List.take_of_length_le (by rw [HN.out]; exact Nat.le_refl _), ← HX.out] at HO HM
              clear HX HQ1 hq2 hq3
              go_upto_region 33 with fail
              have hKp := Keeps.base wr
              have hwx := HK.out.size
              have HRW : Hid (∀ W, Grown wr W → Rd W W.heap.size A (evs.flatMap Ev.cells)) := Lib.hid (fun W hW => (HRE.out W (HK.out.below hW)).more (Nat.le_trans hwx hW.size))
              by_cases hev : evs = []
              · have HEV := Lib.hid hev
                have HL0 : Hid (evs.length = 0) := Lib.hid (by rw [hev]; rfl)
                have HAC : Hid (Value.slice A n c = .slice A 0 c) := Lib.hid (by rw [← HN.out, HL0.out])
                clear hev
                refine wp_region_mixedT [.pure, .held, .make, .pure, .held, .pure, .pure, .tail, .pure] (fun _ => rowTold wr) (by kernel_rfl) (by kernel_rfl) ?_
                repeat (first | (refine mix_pure rfl rfl rfl (fun K hK => ?_); go_big_quiet_op; refine hK _ ?_; clear hK K) | (refine mix_held rfl rfl rfl (by assumption) (fun K hK => ?_); go_big_quiet_op; refine hK _ ?_; clear hK K))
                refine mix_make rfl rfl (by assumption) rowTold_st (row_makes rfl) ?_
                rintro v ⟨g2, rfl⟩ hKp2
                simp only [Act.put, List.setIfInBounds_toArray, List.set_cons_zero, List.set_cons_succ]
                repeat (first | (refine mix_pure rfl rfl rfl (fun K hK => ?_); go_big_quiet_op; refine hK _ ?_; clear hK K) | (refine mix_held rfl rfl rfl (by assumption) (fun K hK => ?_); go_big_quiet_op; refine hK _ ?_; clear hK K))
                refine mix_runs0 (.slice (some ⟨g2, 0, none⟩) 0 0) rfl rfl (fun W => runs_app0 (.tmp 222) (.tmp 224) rfl ⟨g2, 0, none⟩ A c rfl (by exact HAC.out) W) ?_
                simp only [Act.put, List.setIfInBounds_toArray, List.set_cons_zero, List.set_cons_succ]
                repeat (first | (refine mix_pure rfl rfl rfl (fun K hK => ?_); go_big_quiet_op; refine hK _ ?_; clear hK K) | (refine mix_held rfl rfl rfl (by assumption) (fun K hK => ?_); go_big_quiet_op; refine hK _ ?_; clear hK K))
                refine mix_tailC rfl rfl (fun v => ∃ g, v = .slice (some ⟨g, 0, none⟩) 1 1) (fun v W => Below wr.heap.size wr W ∧ OwnL W wr.heap.size 30 2 v pgC [(f, .slice (some ⟨g2, 0, none⟩) evs.length 0, evs)] ∧ OwnL W wr.heap.size 43 9 (.slice (some ⟨g2, 0, none⟩) evs.length 0) Ev.cells evs) (fun W hW => goes_mono (goes_bs_pg (.tmp 226) rfl f (some ⟨g2, 0, none⟩) 0 0 rfl) (by
                  rintro v' W' ⟨rfl, rfl⟩
                  rw [HL0.out]
                  refine ⟨⟨_, rfl⟩, bTrans hW.1 (bAlloc (Below.refl _ _) _), OwnL.lit (f := pgC) (m := 2) (n := 1) (c := 1) [(f, .slice (some ⟨g2, 0, none⟩) 0 0, evs)] #[.int .i64 f, .slice (some ⟨g2, 0, none⟩) 0 0] hW.1.size (by simp [maxLen]) pgC_length rfl rfl rfl, ?_⟩
                  rw [HEV.out]
                  exact OwnL.alloc hW.2 _)) ?_
                rintro v7 ⟨g7, rfl⟩
                simp only [Act.put, List.setIfInBounds_toArray, List.set_cons_zero, List.set_cons_succ]
                repeat (first | (refine mix_pure rfl rfl rfl (fun K hK => ?_); go_big_quiet_op; refine hK _ ?_; clear hK K) | (refine mix_held rfl rfl rfl (by assumption) (fun K hK => ?_); go_big_quiet_op; refine hK _ ?_; clear hK K))
                refine mix_nil ?_
                rintro w3 ⟨hb3, ho3, hr3⟩
                have HG3 : Hid (OwnL w3 wr.heap.size 30 2 (.slice (some ⟨g7, 0, none⟩) 1 1) pgC (setT (P.take 0) f (.slice (some ⟨g2, 0, none⟩) evs.length 0) evs)) := Lib.hid ho3
                have HR3 : Hid (OwnL w3 wr.heap.size 43 9 (.slice (some ⟨g2, 0, none⟩) evs.length 0) Ev.cells evs) := Lib.hid hr3
                have HO3 := Lib.hid (HO.out.below hb3)
                have HM3 := Lib.hid (HM.out.on hb3)
                have HP3 := Lib.hid (HP.out.on hb3)
                have HK3 := Lib.hid (HK.out.below hb3)
                have hwx3 := hb3.size
                obtain ⟨V5, hV5⟩ : ∃ V5, Value.slice (some ⟨g2, 0, none⟩) evs.length 0 = V5 := ⟨_, rfl⟩
                rw [hV5] at HG3 HR3
                obtain ⟨Bw, hBw⟩ : ∃ Bw, wr.heap.size = Bw := ⟨_, rfl⟩
                have HLP : Hid (w.heap.size < wr.heap.size) := Lib.hid lp
                have HPB : Hid (∀ r, (Value.slice Ap P.length cp).ownBlock = some r → r < wr.heap.size) := Lib.hid (fun r e => HM.out.pages.block_lt r e)
                rw [hBw] at HG3 HR3 hwx hwx3 HLP HPB
                clear HO HM HP HK hb3 ho3 hr3 hKp hKp2 HAC HRW HRE hBw hV5 p0 p1 lp hws
                have HP5 : Hid (P.length ≤ 1000) := Lib.hid hP
                obtain ⟨nP, hnP⟩ : ∃ nP, P.length = nP := ⟨_, rfl⟩
                have HNP := Lib.hid hnP
                go_wp2_with fail
                go_loopw [16, 17] (fun u v wr => ∃ k : Nat, k ≤ nP ∧ v = .int .i64 k ∧ ∃ Ag ng cg, u = .slice Ag ng cg ∧ Hid (OwnL wr Bw 30 2 (.slice Ag ng cg) pgC (setT (P.take k) f V5 evs)) ∧ Hid (OwnL wr Bw 43 9 V5 Ev.cells evs) ∧ Hid (OwnL wr w.heap.size 57 12 (.slice A' n' c') Cm.cells X.2) ∧ Hid (MgW wr gm most X.1 P com false AL' cL' Ap cp) ∧ Hid (Blk wr w.heap.size 30 #[.int .i64 f, .slice A n c]) ∧ Hid (KeptX w wr [gm]) ∧ Hid (Bw ≤ wr.heap.size)) (fun _ v _ => nP - (intOf v).toNat)
                case atStart => exact ⟨0, Nat.zero_le _, rfl, _, _, _, rfl, HG3, HR3, HO3, HM3, HP3, HK3, Lib.hid hwx3⟩
                case round =>
                  clear HG3 HR3 HO3 HM3 HP3 HK3 hwx3
                  obtain ⟨k, hk, rfl, Ag, ng, cg, rfl, HG, HR, HO, HM, HP, HK, HBW⟩ := hrel
                  have hws := HK.out.size
                  have hlen : (setT (P.take k) f V5 evs).length ≤ 1001 := Nat.le_trans (setT_len _ _ _ _) (by have := HP5.out; rw [List.length_take]; omega)
                  have p0 := HP.out.cell 0
                  have lp := HP.out.lt
                  simp only [List.getElem?_toArray, List.getElem?_cons_zero, List.getElem?_cons_succ] at p0
                  obtain ⟨lg, -, -, c2, -, -⟩ := HM.out.cells
                  rw [HNP.out] at c2
                  by_cases hlt : k < nP
                  · have hkP : k < P.length := by rw [HNP.out]; exact hlt
                    obtain ⟨gp, A9, n9, c9, rfl, hgp, q0, q1, hqv⟩ := HM.out.page2 hkP
                    have HSQ := Lib.hid (setT_eq P f V5 evs k hkP)
                    obtain ⟨q, hq⟩ : ∃ q, P[k] = q := ⟨_, rfl⟩
                    rw [hq] at q0 HSQ hqv
                    have HQV := Lib.hid hqv
                    clear hq hqv hkP
                    by_cases hqf : q.1 = f
                    · have hb : (q.1 != f) = false := by simp [hqf]
                      rw [if_pos hqf, List.append_nil] at HSQ
                      clear hqf
                      go_upto_region 37 with fail
                      refine wp_region_mild (by kernel_rfl) (by kernel_rfl) ?_
                      repeat (go_big_quiet_step (fail))
                      refine wpQuiet_nil ?_
                      intro w4 hw'
                      obtain ⟨⟨wq, k4⟩, hw''⟩ := hw'
                      subst hw''
                      go_wp2
                      go_roundw
                      case rel => exact ⟨k + 1, by omega, by go_num, _, _, _, rfl, Lib.hid (by rw [HSQ.out]; exact HG.out.below k4), Lib.hid (HR.out.below k4), Lib.hid (HO.out.below k4), Lib.hid (HM.out.on k4), Lib.hid (HP.out.on k4), Lib.hid (HK.out.below k4), Lib.hid (Nat.le_trans HBW.out k4.size)⟩
                      case measure => simp [intOf]; omega
                    · have hb : (q.1 != f) = true := by simp [hqf]
                      rw [if_neg hqf] at HSQ
                      clear hqf
                      go_upto_region 37 with fail
                      refine wp_region_mild (by kernel_rfl) (by kernel_rfl) ?_
                      repeat (go_big_quiet_step (fail))
                      refine wpQuiet_nil ?_
                      intro w4 hw'
                      obtain ⟨⟨wq, k4⟩, hw''⟩ := hw'
                      subst hw''
                      have HG4 := Lib.hid (HG.out.below k4)
                      have HR4 := Lib.hid (HR.out.below k4)
                      have HO4 := Lib.hid (HO.out.below k4)
                      have HM4 := Lib.hid (HM.out.on k4)
                      have HP4 := Lib.hid (HP.out.on k4)
                      have HK4 := Lib.hid (HK.out.below k4)
                      have HBW4 := Lib.hid (Nat.le_trans HBW.out k4.size)
                      have hc4 : ∀ o, w4.cell? ⟨gp, o, none⟩ = wr.cell? ⟨gp, o, none⟩ := fun o => k4.cell (p := ⟨gp, o, none⟩) hgp
                      have hc5 : ∀ o, w4.cell? ⟨gm, o, none⟩ = wr.cell? ⟨gm, o, none⟩ := fun o => k4.cell (p := ⟨gm, o, none⟩) lg
                      rw [← hc4] at q0 q1
                      rw [← hc5] at c2
                      have hgp4 := Nat.lt_of_lt_of_le hgp k4.size
                      have lg4 := Nat.lt_of_lt_of_le lg k4.size
                      clear hgp lg hc4 hc5 HG HR HO HM HP HK HBW p0 lp k4
                      go_wp2_with (first | (at_builtin; refine wpList_app_pg rfl (.tmp 248) (.tmp 256) rfl Bw _ (setT (P.take k) f V5 evs) q (by rw [HQV.out]; rfl) (HG4.out.alloc _) rfl _ _ 1 rfl (rd_pg2 _ q HQV.out) (by omega) (by have := HBW4.out; simp; omega) ?_; intro A6 c6 n6 w6 hn6 ho6 hg6; have HO6 := Lib.hid ho6; have HG6 := Lib.hid hg6; clear ho6 hg6))
                      go_roundw
                      case rel =>
                        have ho7 := HG4.out.alloc (.cells #[.int .i64 q.1, .slice A9 n9 c9] 30)
                        exact ⟨k + 1, by omega, by go_num, A6, n6, c6, rfl, Lib.hid (by rw [HSQ.out]; exact HO6.out), Lib.hid ((HR4.out.alloc _).keptR ho7 (by decide) HG6.out), Lib.hid ((HO4.out.alloc _).keptR ho7 (by decide) HG6.out), Lib.hid ((HM4.out.on (bAlloc (Below.refl _ _) _)).farP ho7 HG6.out HPB.out), Lib.hid ((HP4.out.alloc _).grown HG6.out (fun e => absurd (ho7.base_le _ e) (by have := HLP.out; omega))), Lib.hid ((HK4.out.alloc _).grown HG6.out (fun r hr => .inr (Nat.le_trans (Nat.le_of_lt HLP.out) (ho7.base_le r hr)))), Lib.hid (Nat.le_trans HBW4.out (Nat.le_trans (by simp) HG6.out.size))⟩
                      case measure => simp [intOf]; omega
                  · obtain rfl : nP = k := by omega
                    rw [List.take_of_length_le (by rw [HNP.out]; exact Nat.le_refl _)] at HG
                    have hng := HG.out.len
                    rw [hng] at HG ⊢
                    have HM5 : Hid (MgW (wr.setCell ⟨gm, 2, none⟩ (.slice Ag (setT P f V5 evs).length cg)) gm most X.1 (setT P f V5 evs) com false AL' cL' Ag cg) := Lib.hid (HM.out.put 2 _ HM.out.live (HG.out.more (Nat.zero_le _)) (fun p hp => by
                      rcases setT_1 p hp with rfl | ⟨h1, -⟩
                      · exact HR.out.more (Nat.zero_le _)
                      · exact HM.out.rows p h1) rfl)
                    have HO5 := Lib.hid (HO.out.farG (HM.out.blk.apart HO.out (by decide)) 2 (.slice Ag (setT P f V5 evs).length cg))
                    have HK5 := Lib.hid (HK.out.setCell (g := gm) (.inl (by simp)) 2 (.slice Ag (setT P f V5 evs).length cg))
                    have f2 := HM.out.blk.frozen 2
                    clear HG HR HO HM HP HK HBW p0 lp
                    go_wp2
                    go_ret2
                    exact ⟨A', n', c', V5, AL', cL', Ag, cg, rfl, HO5.out, HM5.out, HK5.out⟩
              · have HEV := Lib.hid hev
                clear hev
                refine wp_region_mixedT [.pure, .held, .make, .pure, .held, .make, .pure, .tail, .pure] (fun | 2 => rowTold wr | _ => clnTold wr evs) (by kernel_rfl) (by kernel_rfl) ?_
                repeat (first | (refine mix_pure rfl rfl rfl (fun K hK => ?_); go_big_quiet_op; refine hK _ ?_; clear hK K) | (refine mix_held rfl rfl rfl (by assumption) (fun K hK => ?_); go_big_quiet_op; refine hK _ ?_; clear hK K))
                refine mix_make rfl rfl (by assumption) rowTold_st (row_makes rfl) ?_
                rintro v ⟨g2, rfl⟩ hKp2
                simp only [Act.put, List.setIfInBounds_toArray, List.set_cons_zero, List.set_cons_succ]
                repeat (first | (refine mix_pure rfl rfl rfl (fun K hK => ?_); go_big_quiet_op; refine hK _ ?_; clear hK K) | (refine mix_held rfl rfl rfl (by assumption) (fun K hK => ?_); go_big_quiet_op; refine hK _ ?_; clear hK K))
                refine mix_make rfl rfl (by assumption) clnTold_st (fun W hW => goes_mono (goes_app0_ev (.tmp 222) (.tmp 224) rfl wr.heap.size ⟨g2, 0, none⟩ evs rfl W.heap.size A n c HN.out.symm rfl (HRW.out W hW) (by have := HN.out; omega) hW.size) (by
                  rintro v' W' ⟨-, h2, h3⟩
                  have h4 := h2 HEV.out
                  exact ⟨⟨h4.shape, h4⟩, of_grown0 h3⟩)) ?_
                rintro v5 ⟨A5, c5, rfl⟩ hKp3
                simp only [Act.put, List.setIfInBounds_toArray, List.set_cons_zero, List.set_cons_succ]
                repeat (first | (refine mix_pure rfl rfl rfl (fun K hK => ?_); go_big_quiet_op; refine hK _ ?_; clear hK K) | (refine mix_held rfl rfl rfl (by assumption) (fun K hK => ?_); go_big_quiet_op; refine hK _ ?_; clear hK K))
                refine mix_tailC rfl rfl (fun v => ∃ g, v = .slice (some ⟨g, 0, none⟩) 1 1) (fun v W => Below wr.heap.size wr W ∧ OwnL W wr.heap.size 30 2 v pgC [(f, .slice A5 evs.length c5, evs)] ∧ OwnL W wr.heap.size 43 9 (.slice A5 evs.length c5) Ev.cells evs) (fun W hW => goes_mono (goes_bs_pg (.tmp 226) rfl f A5 evs.length c5 rfl) (by
                  rintro v' W' ⟨rfl, rfl⟩
                  exact ⟨⟨_, rfl⟩, bTrans hW.1.1 (bAlloc (Below.refl _ _) _), OwnL.lit (f := pgC) (m := 2) (n := 1) (c := 1) [(f, .slice A5 evs.length c5, evs)] #[.int .i64 f, .slice A5 evs.length c5] hW.1.1.size (by simp [maxLen]) pgC_length rfl rfl rfl, OwnL.alloc hW.2 _⟩)) ?_
                rintro v7 ⟨g7, rfl⟩
                simp only [Act.put, List.setIfInBounds_toArray, List.set_cons_zero, List.set_cons_succ]
                repeat (first | (refine mix_pure rfl rfl rfl (fun K hK => ?_); go_big_quiet_op; refine hK _ ?_; clear hK K) | (refine mix_held rfl rfl rfl (by assumption) (fun K hK => ?_); go_big_quiet_op; refine hK _ ?_; clear hK K))
                refine mix_nil ?_
                rintro w3 ⟨hb3, ho3, hr3⟩
                have HG3 : Hid (OwnL w3 wr.heap.size 30 2 (.slice (some ⟨g7, 0, none⟩) 1 1) pgC (setT (P.take 0) f (.slice A5 evs.length c5) evs)) := Lib.hid ho3
                have HR3 : Hid (OwnL w3 wr.heap.size 43 9 (.slice A5 evs.length c5) Ev.cells evs) := Lib.hid hr3
                have HO3 := Lib.hid (HO.out.below hb3)
                have HM3 := Lib.hid (HM.out.on hb3)
                have HP3 := Lib.hid (HP.out.on hb3)
                have HK3 := Lib.hid (HK.out.below hb3)
                have hwx3 := hb3.size
                obtain ⟨V5, hV5⟩ : ∃ V5, Value.slice A5 evs.length c5 = V5 := ⟨_, rfl⟩
                rw [hV5] at HG3 HR3
                obtain ⟨Bw, hBw⟩ : ∃ Bw, wr.heap.size = Bw := ⟨_, rfl⟩
                have HLP : Hid (w.heap.size < wr.heap.size) := Lib.hid lp
                have HPB : Hid (∀ r, (Value.slice Ap P.length cp).ownBlock = some r → r < wr.heap.size) := Lib.hid (fun r e => HM.out.pages.block_lt r e)
                rw [hBw] at HG3 HR3 hwx hwx3 HLP HPB
                clear HO HM HP HK hb3 ho3 hr3 hKp hKp2 hKp3 HRW HRE hBw hV5 p0 p1 lp hws
                have HP5 : Hid (P.length ≤ 1000) := Lib.hid hP
                obtain ⟨nP, hnP⟩ : ∃ nP, P.length = nP := ⟨_, rfl⟩
                have HNP := Lib.hid hnP
                go_wp2_with fail
                go_loopw [16, 17] (fun u v wr => ∃ k : Nat, k ≤ nP ∧ v = .int .i64 k ∧ ∃ Ag ng cg, u = .slice Ag ng cg ∧ Hid (OwnL wr Bw 30 2 (.slice Ag ng cg) pgC (setT (P.take k) f V5 evs)) ∧ Hid (OwnL wr Bw 43 9 V5 Ev.cells evs) ∧ Hid (OwnL wr w.heap.size 57 12 (.slice A' n' c') Cm.cells X.2) ∧ Hid (MgW wr gm most X.1 P com false AL' cL' Ap cp) ∧ Hid (Blk wr w.heap.size 30 #[.int .i64 f, .slice A n c]) ∧ Hid (KeptX w wr [gm]) ∧ Hid (Bw ≤ wr.heap.size)) (fun _ v _ => nP - (intOf v).toNat)
                case atStart => exact ⟨0, Nat.zero_le _, rfl, _, _, _, rfl, HG3, HR3, HO3, HM3, HP3, HK3, Lib.hid hwx3⟩
                case round =>
                  clear HG3 HR3 HO3 HM3 HP3 HK3 hwx3
                  obtain ⟨k, hk, rfl, Ag, ng, cg, rfl, HG, HR, HO, HM, HP, HK, HBW⟩ := hrel
                  have hws := HK.out.size
                  have hlen : (setT (P.take k) f V5 evs).length ≤ 1001 := Nat.le_trans (setT_len _ _ _ _) (by have := HP5.out; rw [List.length_take]; omega)
                  have p0 := HP.out.cell 0
                  have lp := HP.out.lt
                  simp only [List.getElem?_toArray, List.getElem?_cons_zero, List.getElem?_cons_succ] at p0
                  obtain ⟨lg, -, -, c2, -, -⟩ := HM.out.cells
                  rw [HNP.out] at c2
                  by_cases hlt : k < nP
                  · have hkP : k < P.length := by rw [HNP.out]; exact hlt
                    obtain ⟨gp, A9, n9, c9, rfl, hgp, q0, q1, hqv⟩ := HM.out.page2 hkP
                    have HSQ := Lib.hid (setT_eq P f V5 evs k hkP)
                    obtain ⟨q, hq⟩ : ∃ q, P[k] = q := ⟨_, rfl⟩
                    rw [hq] at q0 HSQ hqv
                    have HQV := Lib.hid hqv
                    clear hq hqv hkP
                    by_cases hqf : q.1 = f
                    · have hb : (q.1 != f) = false := by simp [hqf]
                      rw [if_pos hqf, List.append_nil] at HSQ
                      clear hqf
                      go_upto_region 37 with fail
                      refine wp_region_mild (by kernel_rfl) (by kernel_rfl) ?_
                      repeat (go_big_quiet_step (fail))
                      refine wpQuiet_nil ?_
                      intro w4 hw'
                      obtain ⟨⟨wq, k4⟩, hw''⟩ := hw'
                      subst hw''
                      go_wp2
                      go_roundw
                      case rel => exact ⟨k + 1, by omega, by go_num, _, _, _, rfl, Lib.hid (by rw [HSQ.out]; exact HG.out.below k4), Lib.hid (HR.out.below k4), Lib.hid (HO.out.below k4), Lib.hid (HM.out.on k4), Lib.hid (HP.out.on k4), Lib.hid (HK.out.below k4), Lib.hid (Nat.le_trans HBW.out k4.size)⟩
                      case measure => simp [intOf]; omega
                    · have hb : (q.1 != f) = true := by simp [hqf]
                      rw [if_neg hqf] at HSQ
                      clear hqf
                      go_upto_region 37 with fail
                      refine wp_region_mild (by kernel_rfl) (by kernel_rfl) ?_
                      repeat (go_big_quiet_step (fail))
                      refine wpQuiet_nil ?_
                      intro w4 hw'
                      obtain ⟨⟨wq, k4⟩, hw''⟩ := hw'
                      subst hw''
                      have HG4 := Lib.hid (HG.out.below k4)
                      have HR4 := Lib.hid (HR.out.below k4)
                      have HO4 := Lib.hid (HO.out.below k4)
                      have HM4 := Lib.hid (HM.out.on k4)
                      have HP4 := Lib.hid (HP.out.on k4)
                      have HK4 := Lib.hid (HK.out.below k4)
                      have HBW4 := Lib.hid (Nat.le_trans HBW.out k4.size)
                      have hc4 : ∀ o, w4.cell? ⟨gp, o, none⟩ = wr.cell? ⟨gp, o, none⟩ := fun o => k4.cell (p := ⟨gp, o, none⟩) hgp
                      have hc5 : ∀ o, w4.cell? ⟨gm, o, none⟩ = wr.cell? ⟨gm, o, none⟩ := fun o => k4.cell (p := ⟨gm, o, none⟩) lg
                      rw [← hc4] at q0 q1
                      rw [← hc5] at c2
                      have hgp4 := Nat.lt_of_lt_of_le hgp k4.size
                      have lg4 := Nat.lt_of_lt_of_le lg k4.size
                      clear hgp lg hc4 hc5 HG HR HO HM HP HK HBW p0 lp k4
                      go_wp2_with (first | (at_builtin; refine wpList_app_pg rfl (.tmp 248) (.tmp 256) rfl Bw _ (setT (P.take k) f V5 evs) q (by rw [HQV.out]; rfl) (HG4.out.alloc _) rfl _ _ 1 rfl (rd_pg2 _ q HQV.out) (by omega) (by have := HBW4.out; simp; omega) ?_; intro A6 c6 n6 w6 hn6 ho6 hg6; have HO6 := Lib.hid ho6; have HG6 := Lib.hid hg6; clear ho6 hg6))
                      go_roundw
                      case rel =>
                        have ho7 := HG4.out.alloc (.cells #[.int .i64 q.1, .slice A9 n9 c9] 30)
                        exact ⟨k + 1, by omega, by go_num, A6, n6, c6, rfl, Lib.hid (by rw [HSQ.out]; exact HO6.out), Lib.hid ((HR4.out.alloc _).keptR ho7 (by decide) HG6.out), Lib.hid ((HO4.out.alloc _).keptR ho7 (by decide) HG6.out), Lib.hid ((HM4.out.on (bAlloc (Below.refl _ _) _)).farP ho7 HG6.out HPB.out), Lib.hid ((HP4.out.alloc _).grown HG6.out (fun e => absurd (ho7.base_le _ e) (by have := HLP.out; omega))), Lib.hid ((HK4.out.alloc _).grown HG6.out (fun r hr => .inr (Nat.le_trans (Nat.le_of_lt HLP.out) (ho7.base_le r hr)))), Lib.hid (Nat.le_trans HBW4.out (Nat.le_trans (by simp) HG6.out.size))⟩
                      case measure => simp [intOf]; omega
                  · obtain rfl : nP = k := by omega
                    rw [List.take_of_length_le (by rw [HNP.out]; exact Nat.le_refl _)] at HG
                    have hng := HG.out.len
                    rw [hng] at HG ⊢
                    have HM5 : Hid (MgW (wr.setCell ⟨gm, 2, none⟩ (.slice Ag (setT P f V5 evs).length cg)) gm most X.1 (setT P f V5 evs) com false AL' cL' Ag cg) := Lib.hid (HM.out.put 2 _ HM.out.live (HG.out.more (Nat.zero_le _)) (fun p hp => by
                      rcases setT_1 p hp with rfl | ⟨h1, -⟩
                      · exact HR.out.more (Nat.zero_le _)
                      · exact HM.out.rows p h1) rfl)
                    have HO5 := Lib.hid (HO.out.farG (HM.out.blk.apart HO.out (by decide)) 2 (.slice Ag (setT P f V5 evs).length cg))
                    have HK5 := Lib.hid (HK.out.setCell (g := gm) (.inl (by simp)) 2 (.slice Ag (setT P f V5 evs).length cg))
                    have f2 := HM.out.blk.frozen 2
                    clear HG HR HO HM HP HK HBW p0 lp
                    go_wp2
                    go_ret2
                    exact ⟨A', n', c', V5, AL', cL', Ag, cg, rfl, HO5.out, HM5.out, HK5.out⟩
end
end Go.Proofs.Yteccmklacgpodaa
