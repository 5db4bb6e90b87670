/-
  The document's Sane.
-/
import Derived.Test.YteccmklacgpodaaLSanE
namespace Go.Proofs.Yteccmklacgpodaa
open Go.RowKit
set_option maxRecDepth 100000
set_option linter.unusedSimpArgs false
theorem key_neqA (a b : Key4) (W : World) : (binOp .neq 41 (.agg #[.int .i64 a.frame, .int .i64 a.emitter, .int .i64 a.kind, .int .i64 a.ord]) (.agg #[.int .i64 b.frame, .int .i64 b.emitter, .int .i64 b.kind, .int .i64 b.ord])).run Try.prog W = .ok (.bool (!decide (a = b))) W := by
  have := neq_ints (P := Try.prog) key_kindsA (fun cs => by unfold valOf; rw [Try.underlying41]) (xs := [.int .i64 a.frame, .int .i64 a.emitter, .int .i64 a.kind, .int .i64 a.ord]) (ys := [.int .i64 b.frame, .int .i64 b.emitter, .int .i64 b.kind, .int .i64 b.ord]) (keyI a) (keyI b) rfl rfl rfl rfl W
  rw [keyI_dec] at this
  exact this
def CmAt (w : World) (b o : Nat) (x : Cm) : Prop :=
  w.cell? ⟨b, o, none⟩ = some (.int .i64 x.kind) ∧ w.cell? ⟨b, o + 1, none⟩ = some (.int .i64 x.e.frame) ∧ w.cell? ⟨b, o + 2, none⟩ = some (.int .i64 x.e.emitter) ∧ w.cell? ⟨b, o + 3, none⟩ = some (.int .i64 x.e.kind) ∧ w.cell? ⟨b, o + 4, none⟩ = some (.int .i64 x.e.ord) ∧ w.cell? ⟨b, o + 5, none⟩ = some (.int .i64 x.e.asset) ∧ w.cell? ⟨b, o + 6, none⟩ = some (.int .i64 x.e.gain) ∧ w.cell? ⟨b, o + 7, none⟩ = some (.int .i64 x.e.pan) ∧ w.cell? ⟨b, o + 8, none⟩ = some (.int .i64 x.e.prio) ∧ w.cell? ⟨b, o + 9, none⟩ = some (.int .i64 x.e.len) ∧ w.cell? ⟨b, o + 10, none⟩ = some (.int .i64 x.late) ∧ w.cell? ⟨b, o + 11, none⟩ = some (.bool x.played)
theorem cmAt_of {w : World} {b o : Nat} {x : Cm} (h : ∀ j u, x.cells[j]? = some u → w.cell? ⟨b, o + j, none⟩ = some u) : CmAt w b o x :=
  ⟨h 0 _ rfl, h 1 _ rfl, h 2 _ rfl, h 3 _ rfl, h 4 _ rfl, h 5 _ rfl, h 6 _ rfl, h 7 _ rfl, h 8 _ rfl, h 9 _ rfl, h 10 _ rfl, h 11 _ rfl⟩
theorem saneD_no {l : List Cm} {i : Nat} (h : i < l.length) (hk : okD (l.take i) l[i] = false) : saneD l = false := by
  unfold saneD
  rw [List.all_eq_false]
  refine ⟨i, by simpa using h, ?_⟩
  rw [List.getElem?_eq_getElem h]
  simp [hk]
theorem saneD_yes {l : List Cm} (h : ∀ i (hi : i < l.length), okD (l.take i) l[i] = true) : saneD l = true := by
  unfold saneD
  rw [List.all_eq_true]
  intro i hi
  have hi' : i < l.length := by simpa using hi
  rw [List.getElem?_eq_getElem hi']
  exact h i hi'
theorem docF_step {l : List Cm} {k : Nat} (h : k < l.length) (K : Key4) : docF (l.take (k + 1)) K = docS K (docF (l.take k) K) l[k] := by
  rw [List.take_succ_eq_append_getElem h, docF_snoc]
theorem docF_more {l : List Cm} {K : Key4} {k : Nat} (h : docF (l.take k) K = none) : ∀ j, k ≤ j → docF (l.take j) K = none := by
  intro j hj
  induction j with
  | zero => have : k = 0 := by omega
            subst this; exact h
  | succ j ih =>
    rcases Nat.lt_or_ge k (j + 1) with h1 | h1
    · rcases Nat.lt_or_ge j l.length with h2 | h2
      · rw [docF_step h2, ih (by omega)]; rfl
      · have := ih (by omega)
        rw [List.take_of_length_le h2] at this
        rw [List.take_of_length_le (by omega)]; exact this
    · have : k = j + 1 := by omega
      rw [← this]; exact h
theorem bne3 (n : Int) : (n != 3) = !decide (n = 3) := by
  by_cases h : n = 3 <;> simp [h]
set_option maxHeartbeats 16000000 in
theorem rsane_any (A : Option Addr) (c : Nat) (l : List Cm) (w : World) (hl : l.length ≤ 900000) (hr : Rd w w.heap.size A (l.flatMap Cm.cells)) :
    Calls Try.prog 17 #[.slice A l.length c] w fun e w' => e = .returned (.bool (saneD l)) ∧ Below w.heap.size w w' := by
  have HR := Lib.hid hr
  obtain ⟨n, hn⟩ : ∃ n, l.length = n := ⟨_, rfl⟩
  have HN := Lib.hid hn
  obtain ⟨q, hq⟩ : ∃ q, saneD l = q := ⟨_, rfl⟩
  have HQ := Lib.hid hq
  rw [hn] at hl
  rw [hn, hq]
  clear hr hn hq
  go_enter Try.func17, Try.ntmps17
  go_wp2
  go_loopw [3] (fun v wr => ∃ i : Nat, i ≤ n ∧ v = .int .i64 i ∧ Hid (∀ j (hj : j < l.length), j < i → okD (l.take j) l[j] = true) ∧ Hid (Below w.heap.size w wr)) (fun v _ => n - (intOf v).toNat)
  case atStart => exact ⟨0, Nat.zero_le _, rfl, Lib.hid (fun j _ h => absurd h (Nat.not_lt_zero _)), Lib.hid (Below.refl _ _)⟩
  case round =>
    obtain ⟨i, hi, rfl, HOK, HB⟩ := hrel
    by_cases hlt : i < n
    · have hil : i < l.length := by rw [HN.out]; exact hlt
      have HIL := Lib.hid hil
      have HNX : Hid (okD (l.take i) l[i] = true → ∀ j (hj : j < l.length), j < i + 1 → okD (l.take j) l[j] = true) := Lib.hid (fun h j hj hji => by
        rcases Nat.lt_or_ge j i with h1 | h1
        · exact HOK.out j hj h1
        · have : j = i := by omega
          subst this; exact h)
      have HNO : Hid (okD (l.take i) l[i] = false → false = q) := Lib.hid (fun h => by rw [← HQ.out]; exact (saneD_no hil h).symm)
      obtain ⟨y, hy⟩ : ∃ y, l[i] = y := ⟨_, rfl⟩
      have HYC : Hid (∀ W, Below w.heap.size w W → ∃ b off, A = some ⟨b, off, none⟩ ∧ b < w.heap.size ∧ CmAt W b (off + i * 12) y) := Lib.hid (fun W hW => by
        obtain ⟨b, off, hA, hb, hat⟩ := (HR.out.below hW (Nat.le_refl _)).at_ Cm.cells_length (by omega) hil
        exact ⟨b, off, hA, hb, cmAt_of (fun j u hu => hat j u (by have h1 := hu; rw [← hy] at h1; exact h1))⟩)
      rw [hy] at HNX HNO
      have HOD : Hid (okD (l.take i) y = match docF (l.take i) y.e.key with | none => false | some p => !badC y p.1 p.2) := Lib.hid rfl
      clear hy
      go_upto_region 6 with fail
      obtain ⟨w3, hw3⟩ : ∃ w3, w3 = wr.alloc (.cells #[.int .i64 0, .int .i64 0, .int .i64 0, .int .i64 0, .int .i64 0, .int .i64 0, .int .i64 0, .int .i64 0, .int .i64 0] 43) := ⟨_, rfl⟩
      have HI3 : Hid (Blk w3 wr.heap.size 43 zeroE.cells.toArray) := Lib.hid (by rw [hw3]; exact Blk.new _ _ _)
      have HB3 : Hid (Below w.heap.size w w3) := Lib.hid (by rw [hw3]; exact bAlloc HB.out _)
      have hge : w.heap.size ≤ wr.heap.size := HB.out.size
      rw [← hw3]
      obtain ⟨gI, hgI⟩ : ∃ gI, wr.heap.size = gI := ⟨_, rfl⟩
      rw [hgI] at HI3 hge ⊢
      clear hw3 hgI HB HOK
      go_wp2_with fail
      go_loopw [4, 6] (fun u v wr => ∃ (k : Nat) (p : Bool × Ev), k ≤ i ∧ v = .int .i64 k ∧ u = .bool p.1 ∧ Hid (docF (l.take k) y.e.key = some p) ∧ Hid (Blk wr gI 43 p.2.cells.toArray) ∧ Hid (Below w.heap.size w wr)) (fun _ v _ => i - (intOf v).toNat)
      case atStart => exact ⟨0, (false, zeroE), Nat.zero_le _, rfl, rfl, Lib.hid rfl, HI3, HB3⟩
      case round =>
        obtain ⟨k, p, hk, rfl, rfl, HF, HI, HB⟩ := hrel
        clear HI3 HB3
        obtain ⟨b, off, hA, hbl, y0, y1, y2, y3, y4, y5, y6, y7, y8, y9, y10, y11⟩ := HYC.out wr HB.out
        subst hA
        have hbw : b < wr.heap.size := Nat.lt_of_lt_of_le hbl HB.out.size
        clear hbl
        by_cases hki : k < i
        · have hkl : k < l.length := by rw [HN.out]; omega
          obtain ⟨b', off', hA', -, x0, x1, x2, x3, x4, x5, x6, x7, x8, x9, -, -⟩ := (HR.out.below HB.out (Nat.le_refl _)).cm hkl
          cases hA'
          have HST := Lib.hid (docF_step hkl y.e.key)
          have HMO := Lib.hid (fun h => docF_more (l := l) (K := y.e.key) (k := k + 1) h i (by omega))
          obtain ⟨x, hx⟩ : ∃ x, l[k] = x := ⟨_, rfl⟩
          rw [hx] at x0 x1 x2 x3 x4 x5 x6 x7 x8 x9 HST
          rw [HF.out] at HST
          clear hx hkl
          by_cases hkey : x.e.key = y.e.key
          · have HNE : Hid (∀ W, (binOp .neq 41 (.agg #[.int .i64 x.e.frame, .int .i64 x.e.emitter, .int .i64 x.e.kind, .int .i64 x.e.ord]) (.agg #[.int .i64 y.e.frame, .int .i64 y.e.emitter, .int .i64 y.e.kind, .int .i64 y.e.ord])).run Try.prog W = .ok (.bool false) W) := Lib.hid (fun W => by have h1 := key_neqA x.e.key y.e.key W; rw [decide_eq_true hkey] at h1; exact h1)
            have HST2 : Hid (docF (l.take (k + 1)) y.e.key = if x.kind = 4 then none else some (!decide (x.kind = 3), x.e)) := Lib.hid (by rw [HST.out]; unfold docS; dsimp only; rw [if_pos hkey])
            clear hkey HST
            go_upto_region 9 with fail
            refine wp_region_mild (by kernel_rfl) (by kernel_rfl) ?_
            repeat (go_big_quiet_step (fail))
            refine wpQuiet_runs_mild (.bool false) rfl (fun W => runs_neq rfl rfl rfl (by kernel_rfl) HNE.out W) ?_
            simp only [Act.put, List.setIfInBounds_toArray, List.set_cons_zero, List.set_cons_succ]
            repeat (go_big_quiet_step (fail))
            refine wpQuiet_nil ?_
            intro w9 hw'
            obtain ⟨⟨wq, k9⟩, hw''⟩ := hw'
            subst hw''
            have HI9 := Lib.hid (HI.out.on k9)
            have HB9 := Lib.hid (bTrans HB.out k9)
            have hbc : ∀ o, w9.cell? ⟨b, o, none⟩ = wr.cell? ⟨b, o, none⟩ := fun o => k9.cell (p := ⟨b, o, none⟩) hbw
            have hbw9 : b < w9.heap.size := Nat.lt_of_lt_of_le hbw k9.size
            rw [← hbc] at x0 x1 x2 x3 x4 x5 x6 x7 x8 x9
            clear y0 y1 y2 y3 y4 y5 y6 y7 y8 y9 y10 y11 hbc hbw k9 HI HB HNE
            by_cases h4 : x.kind = 4
            · have hb4 : (x.kind == 4) = true := by simp [h4]
              have HX : Hid (false = q) := Lib.hid (HNO.out (by
                have h1 := HST2.out
                rw [if_pos h4] at h1
                rw [HOD.out, HMO.out h1]))
              clear h4 HST2
              go_wp2
              go_ret
              exact ⟨ret_bool HX.out, HB9.out⟩
            · have hb4 : (x.kind == 4) = false := by simp [h4]
              rw [if_neg h4] at HST2
              clear h4
              have hgi := HI9.out.lt
              have HTH : Hid (w9.there gI 0 x.e.cells.toArray.size) := Lib.hid (Blk.there HI9.out (by simp [Ev.cells]))
              have HIW : Hid (Blk (w9.setCells gI 0 x.e.cells) gI 43 x.e.cells.toArray) := Lib.hid (HI9.out.whole x.e.cells (by simp [Ev.cells]))
              have HBW : Hid (Below w.heap.size w (w9.setCells gI 0 x.e.cells)) := Lib.hid (bSetCells HB9.out hge 0 _)
              go_wp2_with (first
                | (refine wpList_store_mid rfl 43 (.tmp 5) (.tmp 48) rfl gI 0 x.e.cells.toArray rfl rfl ?_ (by kernel_rfl) (all_oneCell_toArray (evC_one x.e)) ?_; exact HTH.out))
              go_roundw
              case rel => exact ⟨k + 1, (!decide (x.kind = 3), x.e), by omega, by go_num, by rw [bne3], HST2, HIW, HBW⟩
              case measure => simp [intOf]; omega
          · have HNE : Hid (∀ W, (binOp .neq 41 (.agg #[.int .i64 x.e.frame, .int .i64 x.e.emitter, .int .i64 x.e.kind, .int .i64 x.e.ord]) (.agg #[.int .i64 y.e.frame, .int .i64 y.e.emitter, .int .i64 y.e.kind, .int .i64 y.e.ord])).run Try.prog W = .ok (.bool true) W) := Lib.hid (fun W => by have h1 := key_neqA x.e.key y.e.key W; rw [decide_eq_false hkey] at h1; exact h1)
            have HST2 : Hid (docF (l.take (k + 1)) y.e.key = some p) := Lib.hid (by rw [HST.out]; unfold docS; dsimp only; rw [if_neg hkey])
            clear hkey HST
            go_upto_region 9 with fail
            refine wp_region_mild (by kernel_rfl) (by kernel_rfl) ?_
            repeat (go_big_quiet_step (fail))
            refine wpQuiet_runs_mild (.bool true) rfl (fun W => runs_neq rfl rfl rfl (by kernel_rfl) HNE.out W) ?_
            simp only [Act.put, List.setIfInBounds_toArray, List.set_cons_zero, List.set_cons_succ]
            repeat (go_big_quiet_step (fail))
            refine wpQuiet_nil ?_
            intro w9 hw'
            obtain ⟨⟨wq, k9⟩, hw''⟩ := hw'
            subst hw''
            go_wp2
            go_roundw
            case rel => exact ⟨k + 1, p, by omega, by go_num, rfl, HST2, Lib.hid (HI.out.on k9), Lib.hid (bTrans HB.out k9)⟩
            case measure => simp [intOf]; omega
        · obtain rfl : k = i := by omega
          go_upto_region 15 with fail
          obtain ⟨w5, hw5⟩ : ∃ w5, w5 = wr.alloc (.cells #[.int .i64 y.kind, .int .i64 y.e.frame, .int .i64 y.e.emitter, .int .i64 y.e.kind, .int .i64 y.e.ord, .int .i64 y.e.asset, .int .i64 y.e.gain, .int .i64 y.e.pan, .int .i64 y.e.prio, .int .i64 y.e.len, .int .i64 y.late, .bool y.played] 57) := ⟨_, rfl⟩
          have HC5 : Hid (Blk w5 wr.heap.size 57 #[.int .i64 y.kind, .int .i64 y.e.frame, .int .i64 y.e.emitter, .int .i64 y.e.kind, .int .i64 y.e.ord, .int .i64 y.e.asset, .int .i64 y.e.gain, .int .i64 y.e.pan, .int .i64 y.e.prio, .int .i64 y.e.len, .int .i64 y.late, .bool y.played]) := Lib.hid (by rw [hw5]; exact Blk.new _ _ _)
          have HI5 : Hid (Blk w5 gI 43 p.2.cells.toArray) := Lib.hid (by rw [hw5]; exact HI.out.alloc _)
          have HB5 : Hid (Below w.heap.size w w5) := Lib.hid (by rw [hw5]; exact bAlloc HB.out _)
          rw [← hw5]
          obtain ⟨gC, hgC⟩ : ∃ gC, wr.heap.size = gC := ⟨_, rfl⟩
          rw [hgC] at HC5 ⊢
          clear hw5 hgC y0 y1 y2 y3 y4 y5 y6 y7 y8 y9 y10 y11 hbw HI HB
          have c0 := HC5.out.cell 0; have c1 := HC5.out.cell 1; have c2 := HC5.out.cell 2; have c3 := HC5.out.cell 3; have c4 := HC5.out.cell 4; have c5 := HC5.out.cell 5; have c6 := HC5.out.cell 6; have c7 := HC5.out.cell 7; have c8 := HC5.out.cell 8; have c9 := HC5.out.cell 9; have c10 := HC5.out.cell 10; have c11 := HC5.out.cell 11
          have lc := HC5.out.lt
          simp only [List.getElem?_toArray, List.getElem?_cons_zero, List.getElem?_cons_succ] at c0 c1 c2 c3 c4 c5 c6 c7 c8 c9 c10 c11
          obtain ⟨has, is⟩ := p
          have HI5' : Hid (Blk w5 gI 43 #[.int .i64 is.frame, .int .i64 is.emitter, .int .i64 is.kind, .int .i64 is.ord, .int .i64 is.asset, .int .i64 is.gain, .int .i64 is.pan, .int .i64 is.prio, .int .i64 is.len]) := HI5
          obtain ⟨z0, z1, z2, z3, z4, z5, z6, z7, z8⟩ := Blk.ev HI5'.out
          have lz := HI5'.out.lt
          have HBD : Hid (okD (l.take k) y = !badC y has is) := Lib.hid (by rw [HOD.out, HF.out])
          have HYES : Hid (badC y has is = false → ∀ j (hj : j < l.length), j < k + 1 → okD (l.take j) l[j] = true) := Lib.hid (fun h => HNX.out (by rw [HBD.out, h]; rfl))
          have HBAD : Hid (badC y has is = true → false = q) := Lib.hid (fun h => HNO.out (by rw [HBD.out, h]; rfl))
          have HDEF : Hid (badC y has is = (decide (y.late < 0) || (decide (y.kind < 1) || (decide (4 < y.kind) || (decide (y.kind = 1) && has || ((decide (y.kind = 2) || decide (y.kind = 3)) && !has || decide (y.kind = 4) && ((has != y.played) || has && !decide (is = y.e)))))))) := Lib.hid rfl
          clear HOD HNX HNO HBD HF HI5 HI5' HC5 HYC
          by_cases hlate : y.late < 0
          · have HX := Lib.hid (HBAD.out (by rw [HDEF.out]; simp [hlate]))
            clear HBAD HYES HDEF
            go_wp2
            go_ret
            exact ⟨ret_bool HX.out, HB5.out⟩
          · by_cases hk1 : y.kind < 1
            · have HX := Lib.hid (HBAD.out (by rw [HDEF.out]; simp [hk1]))
              clear HBAD HYES HDEF
              go_wp2
              go_ret
              exact ⟨ret_bool HX.out, HB5.out⟩
            · by_cases hk4 : 4 < y.kind
              · have HX := Lib.hid (HBAD.out (by rw [HDEF.out]; simp [hk4]))
                clear HBAD HYES HDEF
                go_wp2
                go_ret
                exact ⟨ret_bool HX.out, HB5.out⟩
              · have HK := Lib.hid (show 1 ≤ y.kind ∧ y.kind ≤ 4 by omega)
                have HDEF2 : Hid (badC y has is = (decide (y.kind = 1) && has || ((decide (y.kind = 2) || decide (y.kind = 3)) && !has || decide (y.kind = 4) && ((has != y.played) || has && !decide (is = y.e))))) := Lib.hid (by rw [HDEF.out, decide_eq_false hlate, decide_eq_false hk1, decide_eq_false hk4]; simp)
                clear HDEF
                by_cases k1 : y.kind = 1
                · cases has
                  · have HX := Lib.hid (HYES.out (by rw [HDEF2.out, k1]; simp))
                    rw [k1] at c0
                    clear HBAD HYES HDEF2 hk1 hk4 k1 HK
                    go_wp2
                    go_roundw
                    case rel => exact ⟨k + 1, by omega, by go_num, HX, HB5⟩
                    case measure => simp [intOf]; omega
                  · have HX := Lib.hid (HBAD.out (by rw [HDEF2.out, k1]; simp))
                    rw [k1] at c0
                    clear HBAD HYES HDEF2 hk1 hk4 k1 HK
                    go_wp2
                    go_ret
                    exact ⟨ret_bool HX.out, HB5.out⟩
                · by_cases k2 : y.kind = 2
                  · cases has
                    · have HX := Lib.hid (HBAD.out (by rw [HDEF2.out, k2]; simp))
                      rw [k2] at c0
                      clear HBAD HYES HDEF2 hk1 hk4 k2 HK
                      go_wp2
                      go_ret
                      exact ⟨ret_bool HX.out, HB5.out⟩
                    · have HX := Lib.hid (HYES.out (by rw [HDEF2.out, k2]; simp))
                      rw [k2] at c0
                      clear HBAD HYES HDEF2 hk1 hk4 k2 HK
                      go_wp2
                      go_roundw
                      case rel => exact ⟨k + 1, by omega, by go_num, HX, HB5⟩
                      case measure => simp [intOf]; omega
                  · by_cases k3 : y.kind = 3
                    · cases has
                      · have HX := Lib.hid (HBAD.out (by rw [HDEF2.out, k3]; simp))
                        rw [k3] at c0
                        clear HBAD HYES HDEF2 hk1 hk4 k3 HK
                        go_wp2
                        go_ret
                        exact ⟨ret_bool HX.out, HB5.out⟩
                      · have HX := Lib.hid (HYES.out (by rw [HDEF2.out, k3]; simp))
                        rw [k3] at c0
                        clear HBAD HYES HDEF2 hk1 hk4 k3 HK
                        go_wp2
                        go_roundw
                        case rel => exact ⟨k + 1, by omega, by go_num, HX, HB5⟩
                        case measure => simp [intOf]; omega
                    · have k4 : y.kind = 4 := by omega
                      have HD4 : Hid (badC y has is = ((has != y.played) || has && !decide (is = y.e))) := Lib.hid (by rw [HDEF2.out, k4]; simp)
                      clear k1 k2 k3 HDEF2
                      cases hp : y.played
                      · rw [hp] at c11 HD4
                        cases has
                        · have HX := Lib.hid (HYES.out (by rw [HD4.out]; simp))
                          rw [k4] at c0
                          clear HBAD HYES HD4 hk1 hk4 k4 HK hp
                          go_wp2
                          go_roundw
                          case rel => exact ⟨k + 1, by omega, by go_num, HX, HB5⟩
                          case measure => simp [intOf]; omega
                        · have HX := Lib.hid (HBAD.out (by rw [HD4.out]; simp))
                          rw [k4] at c0
                          clear HBAD HYES HD4 hk1 hk4 k4 HK hp
                          go_wp2
                          go_ret
                          exact ⟨ret_bool HX.out, HB5.out⟩
                      · rw [hp] at c11 HD4
                        cases has
                        · have HX := Lib.hid (HBAD.out (by rw [HD4.out]; simp))
                          rw [k4] at c0
                          clear HBAD HYES HD4 hk1 hk4 k4 HK hp
                          go_wp2
                          go_ret
                          exact ⟨ret_bool HX.out, HB5.out⟩
                        · by_cases hie : is = y.e
                          · have HX := Lib.hid (HYES.out (by rw [HD4.out]; simp [hie]))
                            have HNE : Hid (∀ W, (binOp .neq 43 (.agg #[.int .i64 is.frame, .int .i64 is.emitter, .int .i64 is.kind, .int .i64 is.ord, .int .i64 is.asset, .int .i64 is.gain, .int .i64 is.pan, .int .i64 is.prio, .int .i64 is.len]) (.agg #[.int .i64 y.e.frame, .int .i64 y.e.emitter, .int .i64 y.e.kind, .int .i64 y.e.ord, .int .i64 y.e.asset, .int .i64 y.e.gain, .int .i64 y.e.pan, .int .i64 y.e.prio, .int .i64 y.e.len])).run Try.prog W = .ok (.bool false) W) := Lib.hid (fun W => by have h1 := ev_neq is y.e W; rw [decide_eq_true hie] at h1; exact h1)
                            clear hie
                            rw [k4] at c0
                            clear HBAD HYES HD4 hk1 hk4 k4 HK hp
                            go_wp2_with (first | (refine wpList_runs (.bool false) rfl (runs_neq rfl rfl rfl (by kernel_rfl) HNE.out _) ?_))
                            go_roundw
                            case rel => exact ⟨k + 1, by omega, by go_num, HX, HB5⟩
                            case measure => simp [intOf]; omega
                          · have HX := Lib.hid (HBAD.out (by rw [HD4.out]; simp [hie]))
                            have HNE : Hid (∀ W, (binOp .neq 43 (.agg #[.int .i64 is.frame, .int .i64 is.emitter, .int .i64 is.kind, .int .i64 is.ord, .int .i64 is.asset, .int .i64 is.gain, .int .i64 is.pan, .int .i64 is.prio, .int .i64 is.len]) (.agg #[.int .i64 y.e.frame, .int .i64 y.e.emitter, .int .i64 y.e.kind, .int .i64 y.e.ord, .int .i64 y.e.asset, .int .i64 y.e.gain, .int .i64 y.e.pan, .int .i64 y.e.prio, .int .i64 y.e.len])).run Try.prog W = .ok (.bool true) W) := Lib.hid (fun W => by have h1 := ev_neq is y.e W; rw [decide_eq_false hie] at h1; exact h1)
                            clear hie
                            rw [k4] at c0
                            clear HBAD HYES HD4 hk1 hk4 k4 HK hp
                            go_wp2_with (first | (refine wpList_runs (.bool true) rfl (runs_neq rfl rfl rfl (by kernel_rfl) HNE.out _) ?_))
                            go_ret
                            exact ⟨ret_bool HX.out, HB5.out⟩
    · have HX : Hid (true = q) := Lib.hid (by rw [← HQ.out]; exact (saneD_yes (fun j hj => HOK.out j hj (by have := HN.out; omega))).symm)
      go_wp2
      go_ret
      exact ⟨ret_bool HX.out, HB.out⟩
end Go.Proofs.Yteccmklacgpodaa
